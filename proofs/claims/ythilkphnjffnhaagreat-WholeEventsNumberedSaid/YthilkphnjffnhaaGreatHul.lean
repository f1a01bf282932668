/- disjunctive: near, Valid. -/
import Derived.Test.YthilkphnjffnhaaGreatCmbc
set_option linter.unusedSimpArgs false
set_option linter.unusedVariables false
namespace Go.Proofs.YthilkphnjffnhaaGreat
open Go.RowKit Go.Shelf

instance : Inhabited Ch := ⟨⟨0, 0, none, 0, []⟩⟩
/-- choices, and what their spans' headers lead to -/
structure ChS (w : World) (A : Option Addr) (xs : List Ch) : Prop where
  rd : RdS Ch.enc 3 w A xs
  sp : ∀ x ∈ xs, RdS Sp.enc 2 w x.A x.l
theorem ChS.below {w w' : World} {A : Option Addr} {xs : List Ch} (h : ChS w A xs) (hb : Below w.heap.size w w') : ChS w' A xs := ⟨h.rd.below hb, fun x hx => (h.sp x hx).below hb⟩

def nearB (x : Int) : Bool := decide (-1073741824 ≤ x ∧ x ≤ 1073741824)
theorem nearB_iff {x : Int} : nearB x = true ↔ -1073741824 ≤ x ∧ x ≤ 1073741824 := by simp [nearB]
theorem nearB_no {x : Int} (h : ¬ (-1073741824 ≤ x ∧ x ≤ 1073741824)) : nearB x = false := by simp [nearB]; omega
theorem near_any (x : Int) (w : World) : Calls Tryz.prog 162 #[.int .i64 x] w fun e w' => e = .returned (.bool (nearB x)) ∧ w = w' := by
  go_enter Tryz.func162, Tryz.ntmps162
  go_wp2
  all_goals go_ret
  · exact ⟨ret_bool (by simp [nearB]; omega), rfl⟩
  · exact ⟨ret_bool (nearB_no (by omega)).symm, rfl⟩

def spanOk (s : Sp) : Bool := nearB s.a && nearB s.b && decide (s.a < s.b)
def choiceOk (n : Int) (c : Ch) : Bool := decide (0 ≤ c.i) && decide (c.i < n) && decide (0 ≤ c.j) && decide (c.j < n) && decide (1 ≤ c.l.length) && decide (c.l.length ≤ 8)
def dvalid (n : Int) (l : List Ch) : Bool := decide (1 ≤ n) && decide (n ≤ 24) && decide (l.length ≤ 60) && l.all (fun c => choiceOk n c && c.l.all spanOk)

theorem RdS.at3 {w : World} {A : Option Addr} {l : List Ch} (h : RdS Ch.enc 3 w A l) {i : Nat} (hi : i < l.length) :
    ∃ b off, A = some ⟨b, off, none⟩ ∧ b < w.heap.size ∧ w.cell? ⟨b, off + i * 3, none⟩ = some (.int .i64 (l.getD i default).i) ∧ w.cell? ⟨b, off + i * 3 + 1, none⟩ = some (.int .i64 (l.getD i default).j) ∧
      w.cell? ⟨b, off + i * 3 + 2, none⟩ = some (.slice (l.getD i default).A (l.getD i default).l.length (l.getD i default).c) := by
  rw [getD_at hi]
  obtain ⟨b, off, e, hb, hc⟩ := h.cells i l[i] (List.getElem?_eq_getElem hi)
  exact ⟨b, off, e, hb, hc 0 _ rfl, hc 1 _ rfl, hc 2 _ rfl⟩

set_option maxRecDepth 100000 in
set_option maxHeartbeats 4000000 in
theorem dvalid_any (n : Int) (A : Option Addr) (c : Nat) (l : List Ch) (w : World) (hs : ChS w A l) :
    Calls Tryz.prog 107 #[.int .i64 n, .slice A l.length c] w fun e w' => e = .returned (.bool (dvalid n l)) ∧ Below w.heap.size w w' := by
  by_cases h0 : 1 ≤ n ∧ n ≤ 24 ∧ l.length ≤ 60
  · obtain ⟨h1, h2, h3⟩ := h0
    have h3z : (l.length : Int) ≤ 60 := by omega
    have HV := Lib.hid (show dvalid n l = l.all (fun c => choiceOk n c && c.l.all spanOk) by simp [dvalid, h1, h2, h3])
    rw [HV.out]
    clear HV
    have HS := Lib.hid hs; clear hs
    go_enter Tryz.func107, Tryz.ntmps107
    go_wp2
    go_loopg [22] l.length (fun gg s22 wr => ∃ k : Nat, k ≤ l.length ∧ l.length - k ≤ gg ∧ s22 = .int .i64 k ∧ Aside (Below w.heap.size w wr) ∧ Aside ((l.take k).all (fun c => choiceOk n c && c.l.all spanOk) = true))
    case atStart => exact ⟨0, Nat.zero_le _, by omega, rfl, Below.refl _ _, (rfl : _ = _)⟩
    case round =>
      obtain ⟨k, hk, hg, rfl, HB, HT⟩ := hrel
      by_cases hlt : k < l.length
      · have hltz : (k : Int) < (l.length : Int) := by omega
        obtain ⟨b, off, rfl, hb, c0, c1, c2⟩ := (HS.out.below HB).rd.at3 hlt
        have hsp := (HS.out.below HB).sp (l.getD k default) (by rw [getD_at hlt]; exact List.getElem_mem hlt)
        have hget := getD_at (l := l) hlt
        generalize l.getD k default = x at *
        have HGET := Lib.hid hget; clear hget
        have HB' := Lib.hid HB; clear HB
        have HT' := Lib.hid HT; clear HT
        have hfalse : (choiceOk n x && x.l.all spanOk) = false → l.all (fun c => choiceOk n c && c.l.all spanOk) = false := fun h => by
          rw [List.all_eq_false]; exact ⟨x, by rw [HGET.out]; exact List.getElem_mem hlt, by rw [h]; simp⟩
        have htrue : (choiceOk n x && x.l.all spanOk) = true → (l.take (k + 1)).all (fun c => choiceOk n c && c.l.all spanOk) = true := fun h => by
          rw [List.take_succ_eq_append_getElem hlt, List.all_append, HT'.out, ← HGET.out]; simp [h]
        have HF := Lib.hid hfalse
        have HTR := Lib.hid htrue
        clear hfalse htrue HGET HT'
        by_cases hok : choiceOk n x = true
        · have hk6 : 0 ≤ x.i ∧ x.i < n ∧ 0 ≤ x.j ∧ x.j < n ∧ 1 ≤ x.l.length ∧ x.l.length ≤ 8 := by simpa [choiceOk, and_assoc] using hok
          obtain ⟨i, j, A', c', L⟩ := x
          simp only at hk6 c0 c1 c2 hsp
          obtain ⟨q1, q2, q3, q4, q5, q6⟩ := hk6
          have q5z : (1 : Int) ≤ (L.length : Int) := by omega
          have q6z : (L.length : Int) ≤ 8 := by omega
          have HOK := Lib.hid hok; clear hok
          have HSP := Lib.hid hsp; clear hsp
          have HB2 := Lib.hid (show Below w.heap.size w (wr.alloc (.cells #[.int .i64 i, .int .i64 j, .slice A' L.length c'] 91)) from HB'.out.alloc HB'.out.size _)
          have HSP2 := Lib.hid (show RdS Sp.enc 2 (wr.alloc (.cells #[.int .i64 i, .int .i64 j, .slice A' L.length c'] 91)) A' L from HSP.out.below ((Below.refl _ _).alloc (Nat.le_refl _) _))
          clear HSP HB'
          go_wp2
          clear c0 c1 c2
          obtain ⟨w2, hw2⟩ : ∃ w2 : World, wr.alloc (.cells #[.int .i64 i, .int .i64 j, .slice A' L.length c'] 91) = w2 := ⟨_, rfl⟩
          rw [hw2] at HB2 HSP2 ⊢
          clear hw2
          go_loopg [61] L.length (fun gg s61 wx => ∃ d : Nat, d ≤ L.length ∧ L.length - d ≤ gg ∧ s61 = .int .i64 d ∧ Aside (Below w2.heap.size w2 wx) ∧ Aside ((L.take d).all spanOk = true))
          case atStart => exact ⟨0, Nat.zero_le _, by omega, rfl, Below.refl _ _, (rfl : _ = _)⟩
          case round =>
            obtain ⟨d, hd, hgd, rfl, HBX, HTX⟩ := hrel
            have HBX' := Lib.hid HBX; clear HBX
            have HTX' := Lib.hid HTX; clear HTX
            by_cases hltd : d < L.length
            · have hltdz : (d : Int) < (L.length : Int) := by omega
              obtain ⟨b2, off2, rfl, hb2, d0, d1⟩ := (HSP2.out.below HBX'.out).at2 hltd
              have hget := getD_at (l := L) hltd
              generalize L.getD d default = s at *
              have hfs : spanOk s = false → L.all spanOk = false := fun h => by
                rw [List.all_eq_false]; exact ⟨s, by rw [hget]; exact List.getElem_mem hltd, by rw [h]; simp⟩
              have hts : spanOk s = true → (L.take (d + 1)).all spanOk = true := fun h => by
                rw [List.take_succ_eq_append_getElem hltd, List.all_append, HTX'.out, ← hget]; simp [h]
              have HFS := Lib.hid hfs
              have HTS := Lib.hid hts
              clear hget hfs hts
              obtain ⟨sa, sb⟩ := s
              simp only at d0 d1
              have hna := near_any sa
              have hnb := near_any sb
              generalize hxa : nearB sa = xa at *
              generalize hxb : nearB sb = xb at *
              have HNA := Lib.hid hna
              have HNB := Lib.hid hnb
              have HXA := Lib.hid hxa
              have HXB := Lib.hid hxb
              clear hna hnb hxa hxb
              by_cases hab : sa < sb <;> cases xa <;> cases xb
              all_goals
                go_wp2_with fail
                refine (HNA.out _).mono ?_
                rintro e w3 ⟨rfl, rfl⟩
                try (go_wp2_with fail; refine (HNB.out _).mono ?_; rintro e w3 ⟨rfl, rfl⟩)
                go_wp2
                first
                  | (go_ret; exact ⟨ret_bool (HF.out (by rw [HFS.out (by simp [spanOk, HXA.out, HXB.out]; try omega)]; simp)).symm, HB2.out.trans ((HBX'.out.alloc HBX'.out.size _).mono HB2.out.size)⟩)
                  | (go_roundg (L.length - (d + 1))
                     case measure => omega
                     case rel => exact ⟨d + 1, by omega, by omega, by go_num, HBX'.out.alloc HBX'.out.size _, HTS.out (by simp [spanOk, HXA.out, HXB.out]; try omega)⟩)
            · have hltdz : ¬ (d : Int) < (L.length : Int) := by omega
              obtain rfl : L.length = d := by omega
              have htx := HTX'.out.out
              rw [show List.take L.length L = L from List.take_length] at htx
              have HTK := Lib.hid (HTR.out (by rw [HOK.out, htx]; rfl))
              clear htx
              go_wp2
              go_roundg (l.length - (k + 1))
              case measure => omega
              case rel => exact ⟨k + 1, by omega, by omega, by go_num, HB2.out.trans (HBX'.out.mono HB2.out.size), HTK.out⟩
        · obtain ⟨i, j, A', c', L⟩ := x
          have hk6 : ¬ (0 ≤ i ∧ i < n ∧ 0 ≤ j ∧ j < n ∧ (1 : Int) ≤ (L.length : Int) ∧ (L.length : Int) ≤ 8) := by
            intro h
            apply hok
            simp only [choiceOk, Bool.and_eq_true, decide_eq_true_eq]
            omega
          simp only at c0 c1 c2
          have HF' := Lib.hid (HF.out (by simp only [Bool.not_eq_true] at hok; rw [hok]; rfl))
          have HK := Lib.hid hk6
          clear hk6 hok hsp HTR HF
          go_wp2
          all_goals first
            | (exfalso; have := HK.out; omega)
            | (go_ret; exact ⟨ret_bool HF'.out.symm, (HB'.out.alloc HB'.out.size _)⟩)
      · have hltz : ¬ (k : Int) < (l.length : Int) := by omega
        obtain rfl : l.length = k := by omega
        rw [List.take_length] at HT
        go_wp2
        go_ret
        exact ⟨ret_bool HT.symm, HB⟩
  · have HV := Lib.hid (show dvalid n l = false by simp only [dvalid, Bool.and_eq_false_iff, decide_eq_false_iff_not]; omega)
    have h0z : ¬ (1 ≤ n ∧ n ≤ 24 ∧ (l.length : Int) ≤ 60) := by omega
    have HK := Lib.hid h0z
    clear h0 h0z hs
    go_enter Tryz.func107, Tryz.ntmps107
    go_wp2
    all_goals first
      | (exfalso; have := HK.out; omega)
      | (go_ret; exact ⟨ret_bool HV.out.symm, Below.refl _ _⟩)
end Go.Proofs.YthilkphnjffnhaaGreat

/- disjunctive.hulls. -/
namespace Go.Proofs.YthilkphnjffnhaaGreat
open Go.RowKit Go.Shelf

/-- elements, laid in a block of their own, read as a list -/
theorem rd_blk {α : Type} {enc : α → List Value} {k : Nat} (w : World) (xs : List α) (e : TypeId) (hk : ∀ x, (enc x).length = k) (hlen : xs.length ≤ 140737488355328) : RdS enc k (w.alloc (.cells (xs.flatMap enc).toArray e)) (some ⟨w.heap.size, 0, none⟩) xs := by
  refine ⟨hlen, fun i y hy => ⟨w.heap.size, 0, rfl, by simp, fun j u hu => ?_⟩⟩
  have := flatMap_get hk xs i y j u hy hu
  rw [Nat.zero_add, World.cell?_alloc_new]
  simpa using this

theorem ofB2 {α : Type} {enc : α → List Value} {k : Nat} {e : TypeId} {B : Nat} {w3 wr w4 : World} {o1 : Obj} {v : Value} {xs : List α} (hb : Below B w3 wr) (h : OwL enc k e wr B v xs) (hB : B ≤ wr.heap.size) (hg : (wr.alloc o1).grownBy w4 v.ownBlock) : Below B w3 w4 := by
  have h1 : Below B w3 (wr.alloc o1) := hb.alloc hB _
  exact h1.grown hg (by simp; omega) (fun k hk => (h.lt k hk).1)
def loF (l : List Sp) : Int := l.foldl (fun a s => min a s.a) (l.getD 0 default).a
def hiF (l : List Sp) : Int := l.foldl (fun b s => max b s.b) (l.getD 0 default).b
def hullF (i j : Int) (l : List Sp) : List Bd := [⟨i, j, hiF l - 1⟩, ⟨j, i, -loF l⟩]
def hullsF (cs : List Ch) : List Bd := cs.flatMap fun c => hullF c.i c.j c.l
theorem hullsF_len (cs : List Ch) : (hullsF cs).length = cs.length * 2 := by
  induction cs with
  | nil => rfl
  | cons c cs ih => show (hullF c.i c.j c.l ++ hullsF cs).length = _; rw [List.length_append, ih]; simp [hullF]; omega
/-- a block of its own, and draws -/
theorem box_any {wr w4 : World} {l : List Value} {e : TypeId} {nq : Nat} (h : (wr.alloc (.cells l.toArray e)).drewN nq = w4) :
    (∀ p v, l[p]? = some v → w4.cell? ⟨wr.heap.size, p, none⟩ = some v) ∧ w4.heap.size = wr.heap.size + 1 ∧ wr.heap.size < w4.heap.size ∧ Below wr.heap.size wr w4 := by
  subst h
  refine ⟨fun p v hv => ?_, by simp [World.drewN], by simp [World.drewN], below_drewN ((Below.refl _ _).alloc (Nat.le_refl _) _) nq⟩
  show (wr.alloc _).cell? _ = _
  rw [World.cell?_alloc_new]; simpa using hv
theorem hullsF_take {cs : List Ch} {k : Nat} (hk : k < cs.length) : hullsF (cs.take (k + 1)) = hullsF (cs.take k) ++ hullF cs[k].i cs[k].j cs[k].l := by
  unfold hullsF
  rw [List.take_succ_eq_append_getElem hk, List.flatMap_append]; simp
/-- the ends are within the limit -/
theorem fold_near {l : List Sp} (h : ∀ s ∈ l, spanOk s = true) (a b : Int) (ha : nearB a = true) (hb : nearB b = true) :
    nearB (l.foldl (fun a s => min a s.a) a) = true ∧ nearB (l.foldl (fun b s => max b s.b) b) = true := by
  induction l generalizing a b with
  | nil => exact ⟨ha, hb⟩
  | cons s l ih =>
    have hs := h s (by simp)
    simp only [spanOk, Bool.and_eq_true] at hs
    have n1 := nearB_iff.1 hs.1.1
    have n2 := nearB_iff.1 hs.1.2
    have n3 := nearB_iff.1 ha
    have n4 := nearB_iff.1 hb
    exact ih (fun s hs => h s (by simp [hs])) _ _ (nearB_iff.2 (by dsimp only; omega)) (nearB_iff.2 (by dsimp only; omega))
theorem foldl_take {β γ : Type} (f : β → γ → β) (l : List γ) (b : β) {k : Nat} (hk : k < l.length) : (l.take (k + 1)).foldl f b = f ((l.take k).foldl f b) l[k] := by
  rw [List.take_succ_eq_append_getElem hk, List.foldl_append]; rfl

set_option maxRecDepth 100000 in
set_option maxHeartbeats 4000000 in
theorem hulls_any (A : Option Addr) (c : Nat) (l : List Ch) (w : World) (hs : ChS w A l) (hl : l.length ≤ 60) (hsp : ∀ x ∈ l, 1 ≤ x.l.length ∧ x.l.length ≤ 2000 ∧ ∀ s ∈ x.l, spanOk s = true) :
    Calls Tryz.prog 129 #[.slice A l.length c] w fun e w' => ∃ v, e = .returned v ∧ Aside (OwL Bd.enc 3 29 w' w.heap.size v (hullsF l)) ∧ Below w.heap.size w w' := by
  have HS := Lib.hid hs; clear hs
  have HSP := Lib.hid hsp; clear hsp
  have START := Lib.hid (show OwL Bd.enc 3 29 w w.heap.size (.slice none 0 0) ([] : List Bd) from OwL.nil)
  go_enter Tryz.func129, Tryz.ntmps129
  go_wp2
  go_loopg [3, 12] l.length (fun gg s3 s12 wr => ∃ k : Nat, k ≤ l.length ∧ l.length - k ≤ gg ∧ s12 = .int .i64 k ∧ Aside (OwL Bd.enc 3 29 wr w.heap.size s3 (hullsF (l.take k))) ∧ Aside (Below w.heap.size w wr))
  case atStart => exact ⟨0, Nat.zero_le _, by omega, rfl, START.out, Below.refl _ _⟩
  case round =>
    obtain ⟨k, hk, hg, rfl, HO, HB⟩ := hrel
    clear START
    by_cases hlt : k < l.length
    · have hltz : (k : Int) < (l.length : Int) := by omega
      obtain ⟨b, off, rfl, hb, c0, c1, c2⟩ := (HS.out.below HB).rd.at3 hlt
      have hmem : l.getD k default ∈ l := by rw [getD_at hlt]; exact List.getElem_mem hlt
      have hsp := (HS.out.below HB).sp _ hmem
      have hx := HSP.out _ hmem
      have hstep := hullsF_take hlt
      rw [← getD_at hlt] at hstep
      generalize l.getD k default = x at *
      obtain ⟨i, j, A', c', L⟩ := x
      simp only at c0 c1 c2 hsp hx hstep
      have HSTEP := Lib.hid hstep; clear hstep
      have HSPX := Lib.hid hsp; clear hsp
      have hL0 : 0 < L.length := by omega
      have hL0z : (0 : Int) < (L.length : Int) := by omega
      obtain ⟨b2, off2, rfl, hb2, d0, d1⟩ := HSPX.out.at2 hL0
      simp only [Nat.zero_mul, Nat.add_zero] at d0 d1
      have hx3 := hx.2.1
      have HX := Lib.hid hx.2.2; clear hx
      have HO' := Lib.hid HO; clear HO
      have HB' := Lib.hid HB; clear HB hmem
      have n0 : nearB (L.getD 0 default).a = true ∧ nearB (L.getD 0 default).b = true := by
        have := HX.out (L.getD 0 default) (by rw [getD_at hL0]; exact List.getElem_mem hL0)
        simp only [spanOk, Bool.and_eq_true] at this
        exact ⟨this.1.1, this.1.2⟩
      have HN0 := Lib.hid n0; clear n0
      generalize hsa : (L.getD 0 default).a = sa at *
      generalize hsb : (L.getD 0 default).b = sb at *
      have HSA := Lib.hid hsa; have HSB := Lib.hid hsb
      clear hsa hsb
      go_wp2
      go_quiet (fail)
      go_wp2
      generalize hw4 : World.drewN (World.alloc wr _) _ = w4
      obtain ⟨bx, bx1, bx2, bx3⟩ := box_any (l := [.int .i64 i, .int .i64 j, .slice (some ⟨b2, off2, none⟩) L.length c']) hw4
      have x0 := bx 0 _ rfl
      have x1 := bx 1 _ rfl
      clear hw4 bx bx1
      have HSP4 := Lib.hid (HSPX.out.below bx3)
      have HO4 := Lib.hid (HO'.out.below bx3)
      have HB4 := Lib.hid (HB'.out.trans (bx3.mono HB'.out.size))
      clear bx3 c0 c1 c2 d0 d1 HSPX HO' HB' HS
      obtain ⟨wo, rfl⟩ : ∃ wo : World, wo = wr := ⟨_, rfl⟩
      go_loopg [6, 7, 29] L.length (fun gg s6 s7 s29 wx => ∃ d : Nat, d ≤ L.length ∧ L.length - d ≤ gg ∧ s29 = .int .i64 d ∧ s6 = .int .i64 ((L.take d).foldl (fun a s => min a s.a) sa) ∧ s7 = .int .i64 ((L.take d).foldl (fun b s => max b s.b) sb) ∧ Aside (Below w4.heap.size w4 wx))
      case atStart => exact ⟨0, Nat.zero_le _, by omega, rfl, rfl, rfl, Below.refl _ _⟩
      case round =>
        obtain ⟨d, hd, hgd, rfl, rfl, rfl, HBX⟩ := hrel
        have HBX' := Lib.hid HBX; clear HBX
        by_cases hltd : d < L.length
        · have hltdz : (d : Int) < (L.length : Int) := by omega
          obtain ⟨_, _, e, hb3, d0, d1⟩ := (HSP4.out.below HBX'.out).at2 hltd
          cases e
          have f1 := foldl_take (fun (a : Int) (s : Sp) => min a s.a) L sa hltd
          have f2 := foldl_take (fun (b : Int) (s : Sp) => max b s.b) L sb hltd
          rw [← getD_at hltd] at f1 f2
          generalize L.getD d default = s at *
          generalize (L.take d).foldl (fun (a : Int) (s : Sp) => min a s.a) sa = ma at *
          generalize (L.take d).foldl (fun (b : Int) (s : Sp) => max b s.b) sb = mb at *
          have F1 := Lib.hid f1; have F2 := Lib.hid f2
          clear f1 f2
          go_wp2
          refine wp_region_ext (by kernel_rfl) (by kernel_rfl) ?_
          repeat (refine wpQuiet_step (fun K hK => ?_); go_simp; first | (refine hK _ ?_; clear hK K))
          refine wpQuiet_nil ?_
          intro xa
          go_wp2
          go_roundg (L.length - (d + 1))
          case measure => omega
          case rel => exact ⟨d + 1, by omega, by omega, by go_num, by rw [F1.out], by rw [F2.out], (HBX'.out.alloc HBX'.out.size _).trans ((below_ext _ _).mono (by have := HBX'.out.size; simp; omega))⟩
        · have hltdz : ¬ (d : Int) < (L.length : Int) := by omega
          obtain rfl : L.length = d := by omega
          have hfn := fold_near HX.out sa sb HN0.out.1 HN0.out.2
          have hlo : loF L = L.foldl (fun a s => min a s.a) sa := by unfold loF; rw [HSA.out]
          have hhi : hiF L = L.foldl (fun b s => max b s.b) sb := by unfold hiF; rw [HSB.out]
          rw [List.take_length]
          unfold hullF at HSTEP
          rw [hlo, hhi] at HSTEP
          generalize L.foldl (fun (a : Int) (s : Sp) => min a s.a) sa = ma at *
          generalize L.foldl (fun (b : Int) (s : Sp) => max b s.b) sb = mb at *
          have na := nearB_iff.1 hfn.1
          have nb := nearB_iff.1 hfn.2
          obtain ⟨na1, na2⟩ := na
          obtain ⟨nb1, nb2⟩ := nb
          have y0 := (HBX'.out.cell (p := ⟨wo.heap.size, 0, none⟩) bx2).trans x0
          have y1 := (HBX'.out.cell (p := ⟨wo.heap.size, 1, none⟩) bx2).trans x1
          have y2 := Nat.lt_of_lt_of_le bx2 HBX'.out.size
          have HO5 := Lib.hid (HO4.out.below HBX'.out)
          have HB5 := Lib.hid (HB4.out.trans (HBX'.out.mono HB4.out.size))
          have hln := hullsF_len (l.take k)
          have hln2 : (l.take k).length ≤ 60 := by rw [List.length_take]; omega
          have HLN := Lib.hid (show (hullsF (l.take k)).length ≤ 120 by omega)
          clear hlo hhi hfn hln hln2 x0 x1 HO4 HB4 HBX'
          go_wp2_with (at_builtin; refine wpList_app (v := u3) (xs := hullsF (l.take k)) (ys := [⟨i, j, mb - 1⟩, ⟨j, i, -ma⟩]) (A := some ⟨wr.heap.size, 0, none⟩) rfl _ _ 22 rfl elT24 enc24 rfl (HO5.out.alloc _) rfl (rd_blk (enc := Bd.enc) (k := 3) wr [⟨i, j, mb - 1⟩, ⟨j, i, -ma⟩] 29 enc24.len (by simp)) (fun h => by cases h) (by have := HLN.out; simp; omega) (by decide) (by have := HB5.out.size; simp; omega) ?_; intro v' w5 hown' hgrow hnil hat; have HOW := Lib.hid hown'; have HBW := Lib.hid (ofB2 HB5.out HO5.out HB5.out.size hgrow); clear hown' hgrow hnil hat)
          go_roundg (l.length - (k + 1))
          case measure => omega
          case rel => exact ⟨k + 1, by omega, by omega, by go_num, by rw [HSTEP.out]; exact HOW.out, HBW.out⟩
    · have hltz : ¬ (k : Int) < (l.length : Int) := by omega
      obtain rfl : l.length = k := by omega
      rw [List.take_length] at HO
      go_wp2
      go_ret
      exact ⟨_, rfl, HO, HB⟩
end Go.Proofs.YthilkphnjffnhaaGreat
