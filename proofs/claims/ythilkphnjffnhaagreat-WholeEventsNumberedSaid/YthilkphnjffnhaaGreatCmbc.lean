/- runs.Valid at a canonical list; the ends of a list; runs.combine and runs.Meet. -/
import Derived.Test.YthilkphnjffnhaaGreatOf
import Derived.Deep.DeepCutAuto
set_option linter.unusedSimpArgs false
set_option linter.unusedVariables false
namespace Go.Proofs.YthilkphnjffnhaaGreat
open Go.RowKit Go.Shelf

/-- canonical -/
def CanonS (l : List Sp) : Prop := l.length ≤ 2000 ∧ (∀ s ∈ l, validS s = true) ∧ ∀ i, i + 1 < l.length → (l.getD i default).b < (l.getD (i + 1) default).a

theorem getD_at {α : Type} [Inhabited α] {l : List α} {i : Nat} (h : i < l.length) : l.getD i default = l[i] := by
  rw [List.getD_eq_getElem?_getD, List.getElem?_eq_getElem h]; rfl

theorem RdS.at2 {w : World} {A : Option Addr} {l : List Sp} (h : RdS Sp.enc 2 w A l) {i : Nat} (hi : i < l.length) :
    ∃ b off, A = some ⟨b, off, none⟩ ∧ b < w.heap.size ∧ w.cell? ⟨b, off + i * 2, none⟩ = some (.int .i64 (l.getD i default).a) ∧ w.cell? ⟨b, off + i * 2 + 1, none⟩ = some (.int .i64 (l.getD i default).b) := by
  rw [getD_at hi]
  obtain ⟨b, off, e, hb, hc⟩ := h.cells i l[i] (List.getElem?_eq_getElem hi)
  exact ⟨b, off, e, hb, hc 0 _ rfl, hc 1 _ rfl⟩

set_option maxRecDepth 100000 in
set_option maxHeartbeats 4000000 in
theorem rvalid_yes (A : Option Addr) (c : Nat) (l : List Sp) (w : World) (hs : RdS Sp.enc 2 w A l) (hl : CanonS l) :
    Calls Tryz.prog 229 #[.slice A l.length c] w fun e w' => e = .returned (.bool true) ∧ Below w.heap.size w w' := by
  have hn := hl.1
  have HS := Lib.hid hs; clear hs
  have HL := Lib.hid hl; clear hl
  have hn1 : ¬ (2000 : Int) < (l.length : Int) := by omega
  go_enter Tryz.func229, Tryz.ntmps229
  go_wp2
  go_loopg [10] l.length (fun gg s10 wr => ∃ k : Nat, k ≤ l.length ∧ l.length - k ≤ gg ∧ s10 = .int .i64 k ∧ Aside (Below w.heap.size w wr))
  case atStart => exact ⟨0, Nat.zero_le _, by omega, rfl, Below.refl _ _⟩
  case round =>
    obtain ⟨k, hk, hg, rfl, HB⟩ := hrel
    by_cases hlt : k < l.length
    · have hltz : (k : Int) < (l.length : Int) := by omega
      obtain ⟨b, off, rfl, hb, c0, c1⟩ := (HS.out.below HB).at2 hlt
      have hv : validB (l.getD k default).a (l.getD k default).b = true := by rw [getD_at hlt]; exact HL.out.2.1 _ (List.getElem_mem hlt)
      obtain ⟨s, hs⟩ : ∃ s, s = l.getD k default := ⟨_, rfl⟩
      rw [← hs] at c0 c1 hv
      have hvr := fun W => ivalid_any s.a s.b W
      rw [hv] at hvr
      have HB' := Lib.hid HB; clear HB
      rcases Nat.eq_zero_or_pos k with hk0 | hk0
      · have hkc : ¬ 0 < k := by omega
        have HKC := Lib.hid hkc
        clear hs hk0 hkc
        go_wp2
        refine wp_region_ext (by kernel_rfl) (by kernel_rfl) ?_
        repeat (refine wpQuiet_step (fun K hK => ?_); go_simp; first | (refine hK _ ?_; clear hK K) | (apply Exists.intro; refine ⟨fun _ => ?_, hK _ ?_⟩; (exact calls_ext (hvr _)); clear hK K) | (rw [if_neg HKC.out]; refine hK _ ?_; clear hK K))
        refine wpQuiet_nil ?_
        intro xa
        go_wp2
        go_roundg (l.length - (k + 1))
        case measure => omega
        case rel => exact ⟨k + 1, by omega, by omega, by go_num, (HB'.out.alloc HB'.out.size _).trans ((below_ext _ _).mono (by have := HB'.out.size; simp; omega))⟩
      · have hkz : (0 : Int) < (k : Int) := by omega
        obtain ⟨d, rfl⟩ : ∃ d, k = d + 1 := ⟨k - 1, by omega⟩
        have hltd : d < l.length := by omega
        obtain ⟨_, _, e, _, d0, d1⟩ := (HS.out.below HB'.out).at2 hltd
        cases e
        have hcn := HL.out.2.2 d hlt
        rw [← hs] at hcn
        have hcn2 : ¬ s.a ≤ (l.getD d default).b := by omega
        obtain ⟨t, ht⟩ : ∃ t, t = l.getD d default := ⟨_, rfl⟩
        rw [← ht] at d0 d1 hcn hcn2
        have hwr : IntKind.i64.wrap ((d : Int)) = (d : Int) := by rw [IntKind.wrap_i64]; omega
        have hltd1 : (d : Int) < (l.length : Int) := by omega
        clear hs ht hk0
        go_wp2
        refine wp_region_ext (by kernel_rfl) (by kernel_rfl) ?_
        repeat (refine wpQuiet_step (fun K hK => ?_); go_simp; first | (refine hK _ ?_; clear hK K) | (apply Exists.intro; refine ⟨fun _ => ?_, hK _ ?_⟩; (exact calls_ext (hvr _)); clear hK K))
        refine wpQuiet_nil ?_
        intro xa
        go_wp2
        go_roundg (l.length - (d + 1 + 1))
        case measure => omega
        case rel => exact ⟨d + 1 + 1, by omega, by omega, by go_num, (HB'.out.alloc HB'.out.size _).trans ((below_ext _ _).mono (by have := HB'.out.size; simp; omega))⟩
    · have hltz : ¬ (k : Int) < (l.length : Int) := by omega
      go_wp2
      go_ret
      exact ⟨rfl, HB⟩
end Go.Proofs.YthilkphnjffnhaaGreat

/- The ends of a list of spans, one by one. -/
namespace Go.Proofs.YthilkphnjffnhaaGreat
open Go.RowKit Go.Shelf

def endF (l : List Sp) (n : Nat) : Int :=
  if n = 2 * l.length then 8796093022208 else if n % 2 = 0 then (l.getD (n / 2) default).a else (l.getD (n / 2) default).b

theorem end_any (A : Option Addr) (c : Nat) (l : List Sp) (n : Nat) (w : World) (hs : RdS Sp.enc 2 w A l) (hl : l.length ≤ 2000) (hn : n ≤ 2 * l.length) :
    Calls Tryz.prog 254 #[.slice A l.length c, .int .i64 n] w fun e w' => e = .returned (.int .i64 (endF l n)) ∧ w = w' := by
  by_cases h : n = 2 * l.length
  · have h1 : (n : Int) = 2 * (l.length : Int) := by omega
    have HE := Lib.hid (show endF l n = 8796093022208 by unfold endF; rw [if_pos h])
    rw [HE.out]
    clear HE h
    go_enter Tryz.func254, Tryz.ntmps254
    go_wp2
    go_ret
    exact ⟨rfl, rfl⟩
  · have h1 : ¬ (n : Int) = 2 * (l.length : Int) := by omega
    obtain ⟨q, hq⟩ : ∃ q, q = n / 2 := ⟨_, rfl⟩
    have hql : q < l.length := by omega
    have hqlz : (q : Int) < (l.length : Int) := by omega
    have t2 : Int.tdiv (n : Int) 2 = (q : Int) := by rw [hq, show (2 : Int) = ((2 : Nat) : Int) from rfl, Int.ofNat_tdiv]
    obtain ⟨b, off, rfl, hb, c0, c1⟩ := hs.at2 hql
    rcases Nat.mod_two_eq_zero_or_one n with hm | hm
    · have t1 : Int.tmod (n : Int) 2 = 0 := by rw [show (2 : Int) = ((2 : Nat) : Int) from rfl, ← Int.ofNat_tmod, hm]; rfl
      have HE := Lib.hid (show endF l n = (l.getD q default).a by unfold endF; rw [if_neg h, if_pos hm, ← hq])
      rw [HE.out]
      have HQ := Lib.hid hq
      generalize l.getD q default = t at *
      clear HE h hm hq hs
      go_enter Tryz.func254, Tryz.ntmps254
      go_wp2
      go_ret
      exact ⟨rfl, rfl⟩
    · have t1 : Int.tmod (n : Int) 2 = 1 := by rw [show (2 : Int) = ((2 : Nat) : Int) from rfl, ← Int.ofNat_tmod, hm]; rfl
      have HE := Lib.hid (show endF l n = (l.getD q default).b by unfold endF; rw [if_neg h, if_neg (by omega), ← hq])
      rw [HE.out]
      have HQ := Lib.hid hq
      generalize l.getD q default = t at *
      clear HE h hm hq hs
      go_enter Tryz.func254, Tryz.ntmps254
      go_wp2
      go_ret
      exact ⟨rfl, rfl⟩
end Go.Proofs.YthilkphnjffnhaaGreat

/- runs.combine: the ends of two lists, one behind the other. -/
namespace Go.Proofs.YthilkphnjffnhaaGreat
open Go.RowKit Go.Shelf

structure Cs where
  i : Nat
  k : Nat
  ins : Bool
  fr : Int
  out : List Sp
def oddI (n : Nat) : Bool := (n : Int) % 2 == 1
section
variable (rule : Bool → Bool → Bool) (a b : List Sp)
def cat (s : Cs) : Int := min (endF a s.i) (endF b s.k)
def cnext (s : Cs) (i k : Nat) (at_ : Int) (now : Bool) : Cs :=
  if now = s.ins then ⟨i, k, s.ins, s.fr, s.out⟩ else ⟨i, k, now, at_, if s.ins then s.out ++ [⟨s.fr, at_⟩] else s.out⟩
def ci (s : Cs) : Nat := if endF a s.i ≤ endF b s.k then s.i + 1 else s.i
def ck (s : Cs) : Nat := if endF b s.k ≤ endF a s.i then s.k + 1 else s.k
def cstep (s : Cs) : Cs := cnext s (ci a b s) (ck a b s) (cat a b s) (rule (oddI (ci a b s)) (oddI (ck a b s)))
def iterC : Nat → Cs → Cs
  | 0, s => s
  | f + 1, s => if s.i < 2 * a.length ∨ s.k < 2 * b.length then iterC f (cstep rule a b s) else s
def combF : List Sp := (iterC rule a b (2 * a.length + 2 * b.length) ⟨0, 0, false, 0, []⟩).out
end
theorem cnext_i (s : Cs) (i k : Nat) (x : Int) (n : Bool) : (cnext s i k x n).i = i := by unfold cnext; split <;> rfl
theorem cnext_k (s : Cs) (i k : Nat) (x : Int) (n : Bool) : (cnext s i k x n).k = k := by unfold cnext; split <;> rfl
theorem cnext_out (s : Cs) (i k : Nat) (x : Int) (n : Bool) : (cnext s i k x n).out.length ≤ s.out.length + 1 := by
  unfold cnext; split
  · simp
  · simp only; split <;> simp
theorem endF_le {l : List Sp} (h : ∀ s ∈ l, validS s = true) {n : Nat} (hn : n < 2 * l.length) : endF l n ≤ 4398046511104 := by
  unfold endF
  rw [if_neg (by omega)]
  have hq : n / 2 < l.length := by omega
  have := validB_iff.1 (show validB l[n / 2].a l[n / 2].b = true from h _ (List.getElem_mem hq))
  rw [getD_at hq]
  split <;> omega
theorem endF_end (l : List Sp) : endF l (2 * l.length) = 8796093022208 := by unfold endF; rw [if_pos rfl]
/-- what the loop keeps -/
structure CsOk (rule : Bool → Bool → Bool) (a b : List Sp) (s : Cs) : Prop where
  i : s.i ≤ 2 * a.length
  k : s.k ≤ 2 * b.length
  out : s.out.length ≤ s.i + s.k
  run : ∃ f, 2 * a.length + 2 * b.length ≤ f + (s.i + s.k) ∧ (iterC rule a b f s).out = combF rule a b
theorem CsOk.start (rule : Bool → Bool → Bool) (a b : List Sp) : CsOk rule a b ⟨0, 0, false, 0, []⟩ := ⟨by simp, by simp, by simp, _, by simp, rfl⟩
theorem CsOk.step {rule : Bool → Bool → Bool} {a b : List Sp} {s : Cs} (h : CsOk rule a b s) (ha : ∀ s ∈ a, validS s = true) (hb : ∀ s ∈ b, validS s = true) (hlt : s.i < 2 * a.length ∨ s.k < 2 * b.length) :
    CsOk rule a b (cstep rule a b s) ∧ s.i + s.k < (cstep rule a b s).i + (cstep rule a b s).k := by
  have hi : ci a b s ≤ 2 * a.length := by
    unfold ci; split
    · rename_i h1
      by_cases h2 : s.i < 2 * a.length
      · omega
      · have e : s.i = 2 * a.length := by have := h.i; omega
        have hk : s.k < 2 * b.length := by omega
        rw [e, endF_end] at h1
        have := endF_le hb hk
        omega
    · exact h.i
  have hk : ck a b s ≤ 2 * b.length := by
    unfold ck; split
    · rename_i h1
      by_cases h2 : s.k < 2 * b.length
      · omega
      · have e : s.k = 2 * b.length := by have := h.k; omega
        have hk : s.i < 2 * a.length := by omega
        rw [e, endF_end] at h1
        have := endF_le ha hk
        omega
    · exact h.k
  have hs : s.i + s.k < ci a b s + ck a b s := by
    unfold ci ck
    split <;> split <;> omega
  have e1 : (cstep rule a b s).i = ci a b s := cnext_i _ _ _ _ _
  have e2 : (cstep rule a b s).k = ck a b s := cnext_k _ _ _ _ _
  refine ⟨⟨by rw [e1]; exact hi, by rw [e2]; exact hk, ?_, ?_⟩, by rw [e1, e2]; exact hs⟩
  · have := cnext_out s (ci a b s) (ck a b s) (cat a b s) (rule (oddI (ci a b s)) (oddI (ck a b s)))
    have := h.out
    rw [e1, e2]; unfold cstep; omega
  · obtain ⟨f, hf, hr⟩ := h.run
    have := h.i; have := h.k
    cases f with
    | zero => omega
    | succ f =>
      refine ⟨f, by rw [e1, e2]; omega, ?_⟩
      rw [iterC, if_pos hlt] at hr
      exact hr
theorem CsOk.end_ {rule : Bool → Bool → Bool} {a b : List Sp} {s : Cs} (h : CsOk rule a b s) (hlt : ¬ (s.i < 2 * a.length ∨ s.k < 2 * b.length)) : s.out = combF rule a b := by
  obtain ⟨f, _, hr⟩ := h.run
  cases f with
  | zero => exact hr
  | succ f => rw [iterC, if_neg hlt] at hr; exact hr

theorem ofB1 {B : Nat} {w3 wr w4 : World} {o1 : Obj} {v : Value} {xs : List Sp} (hb : Below B w3 wr) (h : OwL Sp.enc 2 58 wr B v xs) (hB : B ≤ wr.heap.size) (hg : (wr.alloc o1).grownBy w4 v.ownBlock) : Below B w3 w4 := by
  have h1 : Below B w3 (wr.alloc o1) := hb.alloc hB _
  exact h1.grown hg (by simp; omega) (fun k hk => (h.lt k hk).1)
theorem meet1_any (x y : Bool) (w : World) : Calls Tryz.prog 185 (#[.bool x, .bool y] ++ #[]) w fun e w' => e = .returned (.bool (x && y)) ∧ w = w' := by
  show Calls Tryz.prog 185 #[.bool x, .bool y] w _
  cases x <;> cases y
  all_goals
    go_enter Tryz.func185, Tryz.ntmps185
    go_wp2
    go_ret
    exact ⟨rfl, rfl⟩

set_option maxRecDepth 100000 in
set_option maxHeartbeats 8000000 in
theorem comb_any (g : Nat) (lb : Array Value) (eg : ∀ args w, (callFunc g args).run Tryz.prog w = .ok (.enter g args) w) (rule : Bool → Bool → Bool)
    (hp : ∀ x y W, Calls Tryz.prog g (#[.bool x, .bool y] ++ lb) W fun e w' => e = .returned (.bool (rule x y)) ∧ W = w')
    (A B : Option Addr) (c d : Nat) (a b : List Sp) (w : World) (hA : RdS Sp.enc 2 w A a) (hB : RdS Sp.enc 2 w B b) (ha : CanonS a) (hb : CanonS b) (hlen : 2 * a.length + 2 * b.length ≤ 2000) :
    Calls Tryz.prog 184 #[.slice A a.length c, .slice B b.length d, .func (.func g) #[] lb] w fun e w' => ∃ v, e = .returned (.tuple #[v, .int .i64 0]) ∧ Aside (OwL Sp.enc 2 58 w' w.heap.size v (combF rule a b)) ∧ Below w.heap.size w w' := by
  have hv1 := rvalid_yes A c a w hA ha
  have hv2 := fun W (h : RdS Sp.enc 2 W B b) => rvalid_yes B d b W h hb
  have HA := Lib.hid hA; clear hA
  have HB := Lib.hid hB; clear hB
  have HCA := Lib.hid ha.2.1; clear ha
  have HCB := Lib.hid hb.2.1; clear hb
  have HV2 := Lib.hid hv2; clear hv2
  have HP := Lib.hid hp; clear hp
  go_enter Tryz.func184, Tryz.ntmps184
  go_wp2_with fail
  refine hv1.mono ?_
  rintro e w1 ⟨rfl, hb1⟩
  have HB1 := Lib.hid hb1; clear hb1 hv1
  go_wp2_with fail
  refine (HV2.out w1 (HB.out.below HB1.out)).mono ?_
  rintro e w2 ⟨rfl, hb2⟩
  have HB2 := Lib.hid (show Below w.heap.size w w2 from HB1.out.trans (hb2.mono HB1.out.size)); clear hb2 HB1 HV2
  have START := Lib.hid (show OwL Sp.enc 2 58 w2 w.heap.size (.slice none 0 0) ([] : List Sp) from OwL.nil)
  go_wp2
  go_loopg [8, 9, 10, 12, 13] (2 * a.length + 2 * b.length) (fun gg s8 s9 s10 s12 s13 wr => ∃ s : Cs, 2 * a.length + 2 * b.length - (s.i + s.k) ≤ gg ∧ s9 = .int .i64 s.i ∧ s10 = .int .i64 s.k ∧ s12 = .bool s.ins ∧ s13 = .int .i64 s.fr ∧
    Aside (CsOk rule a b s) ∧ Aside (OwL Sp.enc 2 58 wr w.heap.size s8 s.out) ∧ Aside (Below w.heap.size w wr))
  case atStart => exact ⟨⟨0, 0, false, 0, []⟩, by simp, rfl, rfl, rfl, rfl, CsOk.start _ _ _, START.out, HB2.out⟩
  case round =>
    obtain ⟨⟨i, k, ins, fr, out⟩, hg, e9, e10, e12, e13, HS, HO, HBW⟩ := hrel
    simp only at hg e9 e10 e12 e13 HO
    subst e9 e10 e12 e13
    by_cases hlt : i < 2 * a.length ∨ k < 2 * b.length
    · have hok := HS.step HCA.out HCB.out hlt
      have HOK := Lib.hid hok.1
      have HGT := Lib.hid hok.2
      clear hok
      have hi := HS.i
      have hk := HS.k
      have hout := HS.out.out
      have hEA := end_any A c a i wr (HA.out.below HBW) (by omega) hi
      have hEB := end_any B d b k wr (HB.out.below HBW) (by omega) hk
      simp only at hi hk hout
      unfold cstep cat at HOK HGT
      simp only at HOK HGT
      have HO' := Lib.hid HO; clear HO
      have HBW' := Lib.hid HBW; clear HBW
      have HI := Lib.hid (show i ≤ 2 * a.length ∧ k ≤ 2 * b.length ∧ out.length ≤ i + k from ⟨hi, hk, hout⟩)
      have hiz : (i : Int) ≤ 2000 := by omega
      have hkz : (k : Int) ≤ 2000 := by omega
      have HEA := Lib.hid hEA
      have HEB := Lib.hid hEB
      clear hEA hEB hout hi hk
      go_upto_region 7 with fail
      go_cut [35] from 24 to 80 (fun s35 wx => s35 = .bool true ∧ wx = wr)
      case first =>
        clear HOK HGT
        by_cases h1 : i < 2 * a.length
        · have h1z : (i : Int) < 2 * (a.length : Int) := by omega
          clear hlt
          go_wp2
          go_meet
          exact ⟨rfl, rfl⟩
        · have h1z : ¬ (i : Int) < 2 * (a.length : Int) := by omega
          have h2z : (k : Int) < 2 * (b.length : Int) := by omega
          clear hlt h1
          go_wp2
          go_meet
          exact ⟨rfl, rfl⟩
      case rest =>
        obtain ⟨rfl, rfl⟩ := hcut
        clear hlt HS
        generalize hea : endF a i = ea at *
        generalize heb : endF b k = eb at *
        obtain ⟨ni, hni⟩ : ∃ ni, ni = ci a b ⟨i, k, ins, fr, out⟩ := ⟨_, rfl⟩
        obtain ⟨nk, hnk⟩ : ∃ nk, nk = ck a b ⟨i, k, ins, fr, out⟩ := ⟨_, rfl⟩
        rw [← hni, ← hnk] at HOK HGT
        rw [cnext_i, cnext_k] at HGT
        unfold ci at hni
        unfold ck at hnk
        simp only at hni hnk
        rw [hea, heb] at hni hnk
        have HNI := Lib.hid hni
        have HNK := Lib.hid hnk
        clear hni hnk hea heb
        go_wp2_with fail
        refine HEA.out.mono ?_
        rintro e w' ⟨rfl, rfl⟩
        go_wp2_with fail
        refine HEB.out.mono ?_
        rintro e w' ⟨rfl, rfl⟩
        go_wp2_with fail
        refine HEA.out.mono ?_
        rintro e w' ⟨rfl, rfl⟩
        go_upto_if 50 with fail
        go_cut [9, 14] from 24 to 80 (fun s9 s14 wx => s9 = .int .i64 (ni : Int) ∧ s14 = .int .i64 (min ea eb) ∧ wx = wc)
        case first =>
          by_cases hle : ea ≤ eb
          · have hm : min ea eb = ea := by omega
            have hni := HNI.out
            rw [if_pos hle] at hni
            subst hni
            go_wp2
            go_meet
            exact ⟨by go_num, by rw [hm], rfl⟩
          · have hm : min ea eb = eb := by omega
            have hne : ¬ ea = eb := by omega
            have hni := HNI.out
            rw [if_neg hle] at hni
            subst hni
            go_wp2
            go_meet
            exact ⟨rfl, by rw [hm], rfl⟩
        case rest =>
          obtain ⟨rfl, rfl, rfl⟩ := hcut
          clear HEA
          go_wp2_with fail
          refine HEB.out.mono ?_
          rintro e w' ⟨rfl, rfl⟩
          go_upto_if 58 with fail
          go_cut [10, 14] from 24 to 80 (fun s10 s14 wx => s10 = .int .i64 (nk : Int) ∧ s14 = .int .i64 (min ea eb) ∧ wx = wc)
          case first =>
            by_cases hle : eb ≤ ea
            · have hm : min ea eb = eb := by omega
              have hnk := HNK.out
              rw [if_pos hle] at hnk
              subst hnk
              go_wp2
              go_meet
              exact ⟨by go_num, by rw [hm], rfl⟩
            · have hm : min ea eb = ea := by omega
              have hne : ¬ eb = ea := by omega
              have hnk := HNK.out
              rw [if_neg hle] at hnk
              subst hnk
              go_wp2
              go_meet
              exact ⟨rfl, by rw [hm], rfl⟩
          case rest =>
            obtain ⟨rfl, rfl, rfl⟩ := hcut
            clear HEB
            go_wp2_with fail
            refine (HP.out _ _ _).mono ?_
            rintro e w' ⟨rfl, rfl⟩
            unfold oddI at HOK
            generalize rule _ _ = now at HOK ⊢
            cases now <;> cases ins
            all_goals
              go_wp2_with (at_builtin; refine wpList_app (v := u8) (xs := out) (ys := [⟨fr, min ea eb⟩]) (A := some ⟨wc.heap.size, 0, none⟩) rfl _ _ 56 rfl elT55 enc55 rfl (HO'.out.alloc _) rfl (rd_one (enc := Sp.enc) (k := 2) wc ⟨fr, min ea eb⟩ 58) (fun h => by cases h) (by have := HI.out; simp; omega) (by decide) (by have := HBW'.out.size; simp; omega) ?_; intro v' w4 hown' hgrow hnil hat; have HOW := Lib.hid hown'; have HBX := Lib.hid (ofB1 HBW'.out HO'.out HBW'.out.size hgrow); clear hown' hgrow hnil hat)
              go_roundg (2 * a.length + 2 * b.length - (ni + nk))
              case measure => have := HI.out; have := HGT.out; have := HOK.out.i; have := HOK.out.k; rw [cnext_i, cnext_k] at *; omega
              case rel => first | exact ⟨_, by rw [cnext_i, cnext_k]; exact Nat.le_refl _, by rw [cnext_i], by rw [cnext_k], rfl, rfl, HOK.out, HO'.out, HBW'.out⟩ | exact ⟨_, by rw [cnext_i, cnext_k]; exact Nat.le_refl _, by rw [cnext_i], by rw [cnext_k], rfl, rfl, HOK.out, HOW.out, HBX.out⟩
    · have hi := HS.i
      have hk := HS.k
      have hout := HS.out.out
      have hend := HS.end_ hlt
      simp only at hi hk hout hend
      obtain rfl : i = 2 * a.length := by omega
      obtain rfl : k = 2 * b.length := by omega
      subst hend
      obtain ⟨A', c', rfl, _⟩ := OwL.rd HO enc55.len (by omega)
      have HO' := Lib.hid HO; clear HO
      have hd := done_any (.slice A' (combF rule a b).length c') A' (combF rule a b).length c' rfl (by omega)
      have HD := Lib.hid hd; clear hd HS
      go_wp2_with fail
      refine (HD.out _).mono ?_
      rintro e w4 ⟨rfl, rfl⟩
      go_wp2
      go_ret2
      exact ⟨_, rfl, HO'.out, HBW⟩

/-- the elements of both lists -/
def meetF (a b : List Sp) : List Sp := combF (fun x y => x && y) a b
theorem meet_any (A B : Option Addr) (c d : Nat) (a b : List Sp) (w : World) (hA : RdS Sp.enc 2 w A a) (hB : RdS Sp.enc 2 w B b) (ha : CanonS a) (hb : CanonS b) (hlen : 2 * a.length + 2 * b.length ≤ 2000) :
    Calls Tryz.prog 130 #[.slice A a.length c, .slice B b.length d] w fun e w' => ∃ v, e = .returned (.tuple #[v, .int .i64 0]) ∧ Aside (OwL Sp.enc 2 58 w' w.heap.size v (meetF a b)) ∧ Below w.heap.size w w' := by
  have hc := comb_any 185 #[] (enters_of Tryz.func185 (by kernel_rfl) rfl) (fun x y => x && y) meet1_any A B c d a b w hA hB ha hb hlen
  have HC := Lib.hid hc
  clear hc hA hB
  go_enter Tryz.func130, Tryz.ntmps130
  go_wp2_with fail
  refine HC.out.mono ?_
  rintro e w1 ⟨v, rfl, ho, hb1⟩
  go_wp2
  go_ret2
  exact ⟨v, rfl, ho, hb1⟩
end Go.Proofs.YthilkphnjffnhaaGreat
