/- Plain laws of networks of bounds: other numbers; time reversed; a bound that follows. -/
import Derived.Test.YthilkphnjffnhaaGreatDst
import Derived.Test.YthilkphnjffnhaaGreatAddb
import Derived.Test.YthilkphnjffnhaaGreatRows
import Derived.Test.YthilkphnjffnhaaGreatWlk
import Derived.Test.YthilkphnjffnhaaGreatExt
import Derived.Test.YthilkphnjffnhaaGreatOwn
set_option linter.unusedSimpArgs false
set_option linter.unusedVariables false
namespace Go.Proofs.YthilkphnjffnhaaGreat

theorem IsPerm.surj {n first : Nat} {p : Nat → Nat} (h : IsPerm n first p) (b : Nat) (hb : b < n) : ∃ a, a < n ∧ p a = b := by
  by_cases hx : ∃ a, a < n ∧ p a = b
  · exact hx
  · obtain ⟨i, j, hij, hj, e⟩ := pigeon n (n + 1) (fun k => if k < n then p k else b) (by omega) (fun i hi => by
      show (if i < n then p i else b) < n
      split
      · rename_i h2; exact h.lt i h2
      · exact hb)
    have hi : i < n := by omega
    simp only [if_pos hi] at e
    by_cases hjn : j < n
    · rw [if_pos hjn] at e
      have := h.inj i j hi hjn e
      omega
    · rw [if_neg hjn] at e
      exact absurd ⟨i, hi, e⟩ hx
/-- the way back -/
theorem IsPerm.back {n first : Nat} {p : Nat → Nat} (h : IsPerm n first p) : ∃ q : Nat → Nat, (∀ b, b < n → q b < n ∧ p (q b) = b) ∧ ∀ a, a < n → q (p a) = a := by
  refine ⟨fun b => if hb : b < n then Classical.choose (h.surj b hb) else b, fun b hb => ?_, fun a ha => ?_⟩
  · simp only [dif_pos hb]
    exact Classical.choose_spec (h.surj b hb)
  · have hb := h.lt a ha
    simp only [dif_pos hb]
    have := Classical.choose_spec (h.surj (p a) hb)
    exact h.inj _ _ this.1 ha this.2

section
variable {n : Nat} {l l' : List Bd}
theorem wk_lt {E : Nat → Nat → Int → Prop} {n : Nat} (hE : ∀ a b w, E a b w → a < n ∧ b < n) {a b k : Nat} {W : Int} (h : Wk E a b k W) (ha : a < n) : b < n := by
  induction h with
  | nil _ => exact ha
  | cons he _ ih => exact ih (hE _ _ _ he).2
theorem noNeg_map {E E' : Nat → Nat → Int → Prop} (f : Nat → Nat) (he : ∀ a b w, E a b w → E' (f a) (f b) w) (h : NoNeg E') : NoNeg E := fun a k W hw => h (f a) k W (hw.map f he)
theorem noNeg_rev {E E' : Nat → Nat → Int → Prop} (he : ∀ a b w, E a b w → E' b a w) (h : NoNeg E') : NoNeg E := fun a k W hw => h a k W (hw.rev he)

/-- the events have other numbers -/
theorem tight_renum (hv : bvalid n l = true) (hv' : bvalid n l' = true) {first : Nat} {p : Nat → Nat} (hp : IsPerm n first p)
    (h1 : ∀ a b w, EdB l a b w → EdB l' (p a) (p b) w) (h2 : ∀ a b w, EdB l' a b w → ∃ a0 b0, a = p a0 ∧ b = p b0 ∧ EdB l a0 b0 w) :
    ((tightF n l).isSome = (tightF n l').isSome) ∧ ∀ M M', tightF n l = some M → tightF n l' = some M' → ∀ a b, a < n → b < n → M a b = M' (p a) (p b) := by
  obtain ⟨q, hq, hqp⟩ := hp.back
  obtain ⟨_, _, _, r1⟩ := bvalid_iff.1 hv
  obtain ⟨_, _, _, r2⟩ := bvalid_iff.1 hv'
  have h3 : ∀ a b w, EdB l' a b w → EdB l (q a) (q b) w := fun a b w he => by
    obtain ⟨a0, b0, rfl, rfl, h⟩ := h2 a b w he
    have := EdB.lt r1 h
    rw [hqp a0 this.1, hqp b0 this.2]; exact h
  refine ⟨?_, fun M M' e e' a b ha hb => ?_⟩
  · rw [Bool.eq_iff_iff, Option.isSome_iff_exists, Option.isSome_iff_exists, tight_some_iff hv, tight_some_iff hv']
    exact ⟨noNeg_map q h3, noNeg_map p h1⟩
  · have d := tight_dist hv e
    have d' := tight_dist hv' e'
    refine Dist.uniq (M' := fun a b => M' (p a) (p b)) d ⟨fun a b k W ha w => d'.le _ _ k W (hp.lt a ha) (w.map p h1), fun a b ha hb hf => ?_⟩ ha hb
    obtain ⟨k, w⟩ := d'.hit _ _ (hp.lt a ha) (hp.lt b hb) hf
    refine ⟨k, ?_⟩
    have := w.map q h3
    rw [hqp a ha, hqp b hb] at this
    exact this

/-- time runs backward -/
theorem tight_rev (hv : bvalid n l = true) (hv' : bvalid n l' = true) (h1 : ∀ a b w, EdB l a b w ↔ EdB l' b a w) :
    ((tightF n l).isSome = (tightF n l').isSome) ∧ ∀ M M', tightF n l = some M → tightF n l' = some M' → ∀ a b, a < n → b < n → M a b = M' b a := by
  refine ⟨?_, fun M M' e e' a b ha hb => ?_⟩
  · rw [Bool.eq_iff_iff, Option.isSome_iff_exists, Option.isSome_iff_exists, tight_some_iff hv, tight_some_iff hv']
    exact ⟨noNeg_rev fun a b w h => (h1 b a w).2 h, noNeg_rev fun a b w h => (h1 a b w).1 h⟩
  · have d := tight_dist hv e
    have d' := tight_dist hv' e'
    obtain ⟨_, _, _, r1⟩ := bvalid_iff.1 hv
    refine Dist.uniq (M' := fun a b => M' b a) d ⟨fun a b k W ha w => ?_, fun a b ha hb hf => ?_⟩ ha hb
    · have hb := wk_lt (fun a b w h => EdB.lt r1 h) w ha
      exact d'.le _ _ k W hb (w.rev fun a b w h => (h1 a b w).1 h)
    · obtain ⟨k, w⟩ := d'.hit _ _ hb ha hf
      exact ⟨k, w.rev fun a b w h => (h1 b a w).2 h⟩
theorem between_rev (hv : bvalid n l = true) (hv' : bvalid n l' = true) (h1 : ∀ a b w, EdB l a b w ↔ EdB l' b a w) (i j : Int) : betweenF n l i j = betweenF n l' j i := by
  obtain ⟨hs, hm⟩ := tight_rev hv hv' h1
  unfold betweenF
  by_cases h : 0 ≤ i ∧ i < n ∧ 0 ≤ j ∧ j < n
  · rw [if_pos h, if_pos ⟨h.2.2.1, h.2.2.2, h.1, h.2.1⟩]
    cases e : tightF n l with
    | none =>
      cases e' : tightF n l' with
      | none => rfl
      | some M' => rw [e, e'] at hs; cases hs
    | some M =>
      cases e' : tightF n l' with
      | none => rw [e, e'] at hs; cases hs
      | some M' =>
        simp only
        rw [hm M M' e e' _ _ (show j.toNat < n by omega) (show i.toNat < n by omega), hm M M' e e' _ _ (show i.toNat < n by omega) (show j.toNat < n by omega)]
  · rw [if_neg h, if_neg (fun h2 => h ⟨h2.2.2.1, h2.2.2.2, h2.1, h2.2.1⟩)]

/-- bounds that follow say nothing new -/
theorem tight_more (hv : bvalid n l = true) {M : Mx} (h : tightF n l = some M) {z : List Bd} (hv' : bvalid n (l ++ z) = true) (hz : ∀ x ∈ z, M x.i.toNat x.j.toNat ≤ x.m ∧ M x.i.toNat x.j.toNat ≠ 4398046511104) :
    ∃ M', tightF n (l ++ z) = some M' ∧ ∀ a b, a < n → b < n → M a b = M' a b := by
  have d := tight_dist hv h
  obtain ⟨_, _, _, r1⟩ := bvalid_iff.1 hv
  obtain ⟨_, _, _, r2⟩ := bvalid_iff.1 hv'
  have hno := (tight_some_iff hv).1 ⟨M, h⟩
  have hlift : ∀ a b k W, a < n → Wk (EdB (l ++ z)) a b k W → ∃ k' W', W' ≤ W ∧ Wk (EdB l) a b k' W' := by
    intro a b k W ha w
    induction w with
    | nil a => exact ⟨0, 0, Int.le_refl _, Wk.nil a⟩
    | @cons a b c k w W he hw ih =>
      have hab := EdB.lt r2 he
      obtain ⟨k2, W2, hW2, w2⟩ := ih hab.2
      obtain ⟨x, hx, e1, e2, e3⟩ := he
      rcases List.mem_append.1 hx with hx | hx
      · exact ⟨k2 + 1, w + W2, by omega, Wk.cons ⟨x, hx, e1, e2, e3⟩ w2⟩
      · obtain ⟨g1, g2⟩ := hz x hx
        have ei : x.i.toNat = a := by omega
        have ej : x.j.toNat = b := by omega
        rw [ei, ej] at g1 g2
        obtain ⟨k3, w3⟩ := d.hit a b hab.1 hab.2 g2
        exact ⟨k3 + k2, M a b + W2, by omega, w3.trans w2⟩
  have hno' : NoNeg (EdB (l ++ z)) := fun a k W w => by
    by_cases ha : a < n
    · obtain ⟨k', W', hW, w'⟩ := hlift a a k W ha w
      have := hno a k' W' w'
      omega
    · cases w with
      | nil _ => exact Int.le_refl _
      | cons he _ => exact absurd (EdB.lt r2 he).1 ha
  obtain ⟨M', e'⟩ := (tight_some_iff hv').2 hno'
  have d' := tight_dist hv' e'
  refine ⟨M', e', fun a b ha hb => Dist.uniq d ⟨fun a b k W ha w => ?_, fun a b ha hb hf => ?_⟩ ha hb⟩
  · exact d'.le a b k W ha (w.mono fun a b w ⟨x, hx, h⟩ => ⟨x, List.mem_append.2 (.inl hx), h⟩)
  · obtain ⟨k, w⟩ := d'.hit a b ha hb hf
    obtain ⟨k1, W1, hW1, w1⟩ := hlift a b k _ ha w
    have h1 := d'.le a b k1 W1 ha (w1.mono fun a b w ⟨x, hx, h⟩ => ⟨x, List.mem_append.2 (.inl hx), h⟩)
    exact ⟨k1, w1.cast rfl (by omega)⟩
/-- added to the tight matrix it changes nothing -/
theorem addM_same (hv : bvalid n l = true) {M : Mx} (h : tightF n l = some M) {b : Bd} (hb : rightB n b = true) (hz : M b.i.toNat b.j.toNat ≤ b.m) : ∀ i j, i < n → j < n → M i j = addM M b i j := fun i j hi hj => by
  have hc := tight_closed hv h
  obtain ⟨q1, q2, q3, q4, q5, q6⟩ := rightB_iff.1 hb
  have bi : b.i.toNat < n := by omega
  have bj : b.j.toNat < n := by omega
  have t1 := hc.tri i b.i.toNat j hi bi hj
  have t2 := hc.tri b.i.toNat b.j.toNat j bi bj hj
  have s1 := hc.size i b.i.toNat hi bi
  have s2 := hc.size b.j.toNat j bj hj
  have s3 := hc.size b.i.toNat b.j.toNat bi bj
  have s4 := hc.size b.i.toNat j bi hj
  unfold addM
  unfold plusD at *
  generalize M i b.i.toNat = x1 at *
  generalize M b.j.toNat j = x2 at *
  generalize M b.i.toNat b.j.toNat = x3 at *
  generalize M b.i.toNat j = x4 at *
  generalize M i j = x5 at *
  repeat' split
  all_goals first | omega | (split at t1 <;> split at t2 <;> omega)
/-- a bound that follows closes no circle below 0 -/
theorem add_pos (hv : bvalid n l = true) {M : Mx} (h : tightF n l = some M) {b : Bd} (hb : rightB n b = true) (hz : M b.i.toNat b.j.toNat ≤ b.m) : 0 ≤ plusD (M b.j.toNat b.i.toNat) b.m := by
  have hc := tight_closed hv h
  obtain ⟨q1, q2, q3, q4, q5, q6⟩ := rightB_iff.1 hb
  have bi : b.i.toNat < n := by omega
  have bj : b.j.toNat < n := by omega
  have t := hc.tri b.j.toNat b.i.toNat b.j.toNat bj bi bj
  have d := hc.diag b.j.toNat bj
  have s1 := hc.size b.j.toNat b.i.toNat bj bi
  have s2 := hc.size b.i.toNat b.j.toNat bi bj
  rw [d] at t
  unfold plusD at *
  repeat' split
  all_goals first | omega | (split at t <;> omega)
end
end Go.Proofs.YthilkphnjffnhaaGreat

/- sameMatrix answers true where the second matrix is the first one by other numbers; the function values handed to it. -/
namespace Go.Proofs.YthilkphnjffnhaaGreat
open Go.RowKit Go.Shelf

def PairAt (P : Program) (g : Nat) (lb : Array Value) (n : Nat) (p1 p2 : Nat → Nat → Nat) (w : World) : Prop :=
  ∀ i j : Nat, i < n → j < n → ∀ W, Below w.heap.size w W → Calls P g (#[.int .i64 i, .int .i64 j] ++ lb) W fun e W' => e = .returned (.tuple #[.int .i64 (p1 i j), .int .i64 (p2 i j)]) ∧ Below W.heap.size W W'

set_option maxRecDepth 100000 in
set_option maxHeartbeats 4000000 in
theorem sameMatrix_yes (g : Nat) (lb : Array Value) (eg : ∀ args w, (callFunc g args).run Tryz.prog w = .ok (.enter g args) w) (n c1 c2 lo1 lo2 b1 b2 : Nat) (rb1 cp1 rb2 cp2 : Nat → Nat) (M1 M2 : Nat → Nat → Int) (p1 p2 : Nat → Nat → Nat)
    (w : World) (h1 : Mat w lo1 b1 rb1 cp1 n n M1) (h2 : Mat w lo2 b2 rb2 cp2 n n M2) (hp : PairAt Tryz.prog g lb n p1 p2 w) (hn : n ≤ 1000)
    (heq : ∀ i j, i < n → j < n → p1 i j < n ∧ p2 i j < n ∧ M1 i j = M2 (p1 i j) (p2 i j)) :
    Calls Tryz.prog 20 #[.slice (some ⟨b1, 0, none⟩) n c1, .slice (some ⟨b2, 0, none⟩) n c2, .func (.func g) #[] lb] w fun e w' => e = .returned (.bool true) ∧ Below w.heap.size w w' := by
  have HP := Lib.hid hp; clear hp
  have HE := Lib.hid heq; clear heq
  have hn0 : (0 : Int) ≤ (n : Int) := by omega
  have H1 := Lib.hid h1; clear h1
  have H2 := Lib.hid h2; clear h2
  go_enter Tryz.func20, Tryz.ntmps20
  go_wp2
  go_loopg [19] n (fun gg s19 wr => wr = w ∧ ∃ k : Nat, k ≤ n ∧ n - k ≤ gg ∧ s19 = .int .i64 k)
  case atStart => exact ⟨rfl, 0, Nat.zero_le _, by omega, rfl⟩
  case round =>
    obtain ⟨rfl, k, hk, hg, rfl⟩ := hrel
    by_cases hlt : k < n
    · have hltz : (k : Int) < (n : Int) := by omega
      have o1 := H1.out.outer k hlt
      have o2 := H2.out.outer k hlt
      go_wp2
      go_roundg (n - (k + 1))
      case measure => omega
      case rel => exact ⟨rfl, k + 1, by omega, by omega, by go_num⟩
    · have hltz : ¬ (k : Int) < (n : Int) := by omega
      obtain rfl : n = k := by omega
      obtain ⟨w, rfl⟩ : ∃ w : World, w = wr := ⟨_, rfl⟩
      go_wp2
      go_loopg [43] n (fun gg s43 wr => ∃ i : Nat, i ≤ n ∧ n - i ≤ gg ∧ s43 = .int .i64 i ∧ Aside (Below w.heap.size w wr))
      case atStart => exact ⟨0, Nat.zero_le _, by omega, rfl, Below.refl _ _⟩
      case round =>
        obtain ⟨i, hi, hg2, rfl, HB⟩ := hrel
        by_cases hlti : i < n
        · have hltiz : (i : Int) < (n : Int) := by omega
          obtain ⟨w2, rfl⟩ : ∃ w2 : World, w2 = wr := ⟨_, rfl⟩
          go_wp2
          go_loopg [48] n (fun gg s48 wr => ∃ j : Nat, j ≤ n ∧ n - j ≤ gg ∧ s48 = .int .i64 j ∧ Aside (Below w.heap.size w wr))
          case atStart => exact ⟨0, Nat.zero_le _, by omega, rfl, HB.out⟩
          case round =>
            obtain ⟨j, hj, hg3, rfl, HB2⟩ := hrel
            by_cases hltj : j < n
            · have hltjz : (j : Int) < (n : Int) := by omega
              obtain ⟨q1, q2, qe⟩ := HE.out i j hlti hltj
              have hcall := HP.out i j hlti hltj wr HB2.out
              generalize p1 i j = a at q1 qe hcall
              generalize p2 i j = b at q2 qe hcall
              have ob := Lib.hid (fun W (hW : Below w.heap.size w W) => (hW.cell (p := ⟨b1, i, none⟩) H1.out.olt).trans (H1.out.outer i hlti))
              have ob2 := Lib.hid (fun W (hW : Below w.heap.size w W) => (hW.cell (p := ⟨b2, a, none⟩) H2.out.olt).trans (H2.out.outer a q1))
              have ob3 := Lib.hid (fun W (hW : Below w.heap.size w W) => (hW.cell (p := ⟨rb1 i, j, none⟩) (H1.out.rlt i hlti)).trans (H1.out.row i j hlti hltj))
              have ob4 := Lib.hid (fun W (hW : Below w.heap.size w W) => (hW.cell (p := ⟨rb2 a, b, none⟩) (H2.out.rlt a q1)).trans (H2.out.row a b q1 q2))
              have QE := Lib.hid qe; clear qe
              have HB' := HB
              go_wp2_with (go_at_fn g; refine hcall.mono ?_; rintro e w' ⟨rfl, hb'⟩)
              have hB3 := HB2.out.trans (hb'.mono HB2.out.size)
              have d1 := ob.out _ hB3
              have d2 := ob2.out _ hB3
              have d3 := ob3.out _ hB3
              have d4 := ob4.out _ hB3
              rw [← QE.out] at d4
              generalize M1 i j = m at d3 d4
              go_quiet (fail)
              go_wp2
              go_roundg (n - (j + 1))
              case measure => omega
              case rel => exact ⟨j + 1, by omega, by omega, by go_num, ⟨hB3.os, hB3.tape, hB3.output, hB3.size, hB3.block⟩⟩
            · have hltjz : ¬ (j : Int) < (n : Int) := by omega
              obtain rfl : n = j := by omega
              go_wp2
              go_roundg (n - (i + 1))
              case measure => omega
              case rel => exact ⟨i + 1, by omega, by omega, by go_num, HB2⟩
        · have hltiz : ¬ (i : Int) < (n : Int) := by omega
          obtain rfl : n = i := by omega
          go_wp2
          go_ret
          exact ⟨rfl, HB.out⟩

theorem sameMatrix_nil (f : Value) (w : World) :
    Calls Tryz.prog 20 #[.slice none 0 0, .slice none 0 0, f] w fun e w' => e = .returned (.bool true) ∧ w = w' := by
  go_enter Tryz.func20, Tryz.ntmps20
  go_wp2
  go_loopg [19] 1 (fun gg s19 wr => wr = w ∧ s19 = .int .i64 0 ∧ gg = 1)
  case atStart => exact ⟨rfl, rfl, rfl⟩
  case round =>
    obtain ⟨rfl, rfl, rfl⟩ := hrel
    go_wp2
    go_loopg [43] 1 (fun gg s19 wr' => wr' = wr ∧ s19 = .int .i64 0 ∧ gg = 1)
    case atStart => exact ⟨rfl, rfl, rfl⟩
    case round =>
      obtain ⟨rfl, rfl, rfl⟩ := hrel
      go_wp2
      go_ret
      exact ⟨rfl, rfl⟩

/-- a captured permutation answers p -/
theorem numbered1_any (n bp g c : Nat) (lo : Nat) (p : Nat → Nat) (i j : Nat) (hi : i < n) (hj : j < n) (w : World) (hb : bp < w.heap.size) (hc : w.cell? ⟨bp, 0, none⟩ = some (.slice (some ⟨g, 0, none⟩) n c)) (h : Arr w lo g n (intF p)) :
    Calls Tryz.prog 21 (#[.int .i64 i, .int .i64 j] ++ #[.pointer (some ⟨bp, 0, none⟩)]) w fun e w' => e = .returned (.tuple #[.int .i64 (p i), .int .i64 (p j)]) ∧ Below w.heap.size w w' := by
  show Calls Tryz.prog 21 #[.int .i64 i, .int .i64 j, .pointer (some ⟨bp, 0, none⟩)] w _
  have c1 : w.cell? ⟨g, i, none⟩ = some (.int .i64 (p i)) := h.cell i hi
  have c2 : w.cell? ⟨g, j, none⟩ = some (.int .i64 (p j)) := h.cell j hj
  clear h
  go_enter Tryz.func21, Tryz.ntmps21
  go_wp2
  go_quiet (fail)
  go_wp2
  go_ret2
  exact ⟨rfl, ⟨rfl, rfl, rfl, Nat.le_refl _, fun _ _ => rfl⟩⟩
theorem reversed1_any (i j : Nat) (w : World) : Calls Tryz.prog 23 (#[.int .i64 i, .int .i64 j] ++ #[]) w fun e w' => e = .returned (.tuple #[.int .i64 j, .int .i64 i]) ∧ Below w.heap.size w w' := by
  show Calls Tryz.prog 23 #[.int .i64 i, .int .i64 j] w _
  go_enter Tryz.func23, Tryz.ntmps23
  go_wp2
  go_ret2
  exact ⟨rfl, Below.refl _ _⟩
theorem implied1_any (i j : Nat) (w : World) : Calls Tryz.prog 25 (#[.int .i64 i, .int .i64 j] ++ #[]) w fun e w' => e = .returned (.tuple #[.int .i64 i, .int .i64 j]) ∧ Below w.heap.size w w' := by
  show Calls Tryz.prog 25 #[.int .i64 i, .int .i64 j] w _
  go_enter Tryz.func25, Tryz.ntmps25
  go_wp2
  go_ret2
  exact ⟨rfl, Below.refl _ _⟩
end Go.Proofs.YthilkphnjffnhaaGreat
