/- Closed matrices of sets of relations: the greatest one below a matrix; what a pass of the closure keeps. -/
import Derived.Test.YthilkphnjffnhaaGreatAln
set_option linter.unusedSimpArgs false
set_option linter.unusedVariables false
namespace Go.Proofs.YthilkphnjffnhaaGreat

abbrev Mn := Nat → Nat → Nat
def updN (M : Mn) (i j x : Nat) : Mn := fun a b => if a = i ∧ b = j then x else M a b
theorem updN_same (M : Mn) (i j x : Nat) : updN M i j x i j = x := by simp [updN]
theorem updN_ne {M : Mn} {i j a b x : Nat} (h : ¬ (a = i ∧ b = j)) : updN M i j x a b = M a b := by simp only [updN]; rw [if_neg h]
theorem updN_self (M : Mn) (i j : Nat) : updN M i j (M i j) = M := by
  funext a b; unfold updN; split
  · rename_i h; rw [h.1, h.2]
  · rfl

def sumR : Nat → (Nat → Nat) → Nat
  | 0, _ => 0
  | n + 1, f => sumR n f + f n
theorem sumR_congr {f g : Nat → Nat} : ∀ n, (∀ i, i < n → f i = g i) → sumR n f = sumR n g
  | 0, _ => rfl
  | n + 1, h => by rw [sumR, sumR, sumR_congr n (fun i hi => h i (by omega)), h n (by omega)]
theorem sumR_put {f : Nat → Nat} {i x : Nat} : ∀ n, i < n → sumR n (fun a => if a = i then x else f a) + f i = sumR n f + x
  | 0, h => by omega
  | n + 1, h => by
    rw [sumR, sumR]
    by_cases e : n = i
    · subst e
      rw [sumR_congr (g := f) n (fun a ha => if_neg (by omega)), if_pos rfl]; omega
    · have := sumR_put (f := f) (x := x) n (show i < n by omega)
      rw [if_neg e]; omega
def muN (n : Nat) (M : Mn) : Nat := sumR n fun i => sumR n (M i)
theorem muN_upd {n : Nat} {M : Mn} {i j x : Nat} (hi : i < n) (hj : j < n) : muN n (updN M i j x) + M i j = muN n M + x := by
  unfold muN
  have e : (fun a => sumR n (updN M i j x a)) = fun a => if a = i then sumR n (fun b => if b = j then x else M i b) else sumR n (M a) := by
    funext a
    by_cases h : a = i
    · rw [if_pos h]; subst h
      exact sumR_congr n fun b _ => by simp [updN]
    · rw [if_neg h]
      exact sumR_congr n fun b _ => by rw [updN_ne (fun h2 => h h2.1)]
  rw [e]
  have h1 := sumR_put (f := fun a => sumR n (M a)) (x := sumR n (fun b => if b = j then x else M i b)) n hi
  have h2 := sumR_put (f := M i) (x := x) n hj
  omega
theorem sumR_le {f : Nat → Nat} {c : Nat} : ∀ n, (∀ i, i < n → f i ≤ c) → sumR n f ≤ n * c
  | 0, _ => by simp [sumR]
  | n + 1, h => by
    have := sumR_le n (fun i hi => h i (by omega))
    have := h n (by omega)
    rw [sumR, Nat.add_mul]; omega

/-- each of S's sets is a part of M's -/
def SubM (n : Nat) (S M : Mn) : Prop := ∀ i j, i < n → j < n → Sub (S i j) (M i j)
theorem SubM.refl (n : Nat) (M : Mn) : SubM n M M := fun _ _ _ _ => Sub.refl _
theorem SubM.trans {n : Nat} {a b c : Mn} (h : SubM n a b) (h2 : SubM n b c) : SubM n a c := fun i j hi hj => (h i j hi hj).trans (h2 i j hi hj)
def NonE (n : Nat) (S : Mn) : Prop := ∀ i j, i < n → j < n → S i j ≠ 0
/-- closed, no set empty -/
structure Clo (n : Nat) (S : Mn) : Prop where
  non : NonE n S
  cl : ∀ k i j, k < n → i < n → j < n → Sub (S i j) (compN (S i k) (S k j))
/-- M is M0 less what no closed matrix has -/
structure CInv (n : Nat) (M0 M : Mn) : Prop where
  low : SubM n M M0
  all : ∀ S, Clo n S → SubM n S M0 → SubM n S M
def LtM (n : Nat) (M : Mn) : Prop := ∀ i j, i < n → j < n → M i j < 8192
theorem CInv.refl (n : Nat) (M : Mn) : CInv n M M := ⟨SubM.refl n M, fun _ _ h => h⟩
theorem and_lt {a b : Nat} (h : a < 8192) : a &&& b < 8192 := Nat.lt_of_le_of_lt Nat.and_le_left h
theorem LtM.upd {n : Nat} {M : Mn} (h : LtM n M) (i j : Nat) {x : Nat} (hx : x < 8192) : LtM n (updN M i j x) := fun a b ha hb => by
  unfold updN; split
  · exact hx
  · exact h a b ha hb
/-- what place (i, j) becomes by way of k -/
def stepN (M : Mn) (k i j : Nat) : Nat := M i j &&& compN (M i k) (M k j)
theorem CInv.in_ {n : Nat} {M0 M : Mn} (h : CInv n M0 M) {k i j : Nat} (hk : k < n) (hi : i < n) (hj : j < n) {S : Mn} (hS : Clo n S) (hS0 : SubM n S M0) : Sub (S i j) (stepN M k i j) := by
  have h1 := h.all S hS hS0
  exact (h1 i j hi hj).and ((hS.cl k i j hk hi hj).trans (compN_mono (h1 i k hi hk) (h1 k j hk hj)))
theorem CInv.step {n : Nat} {M0 M : Mn} (h : CInv n M0 M) {k i j : Nat} (hk : k < n) (hi : i < n) (hj : j < n) : CInv n M0 (updN M i j (stepN M k i j)) := by
  refine ⟨fun a b ha hb => ?_, fun S hS hS0 a b ha hb => ?_⟩
  · unfold updN; split
    · rename_i e; rw [e.1, e.2]
      exact (and_sub _ _).trans (h.low i j hi hj)
    · exact h.low a b ha hb
  · unfold updN; split
    · rename_i e; rw [e.1, e.2]
      exact h.in_ hk hi hj hS hS0
    · exact h.all S hS hS0 a b ha hb
theorem CInv.none_ {n : Nat} {M0 M : Mn} (h : CInv n M0 M) {k i j : Nat} (hk : k < n) (hi : i < n) (hj : j < n) (h0 : stepN M k i j = 0) : ∀ S, Clo n S → ¬ SubM n S M0 := fun S hS hS0 => by
  have := h.in_ hk hi hj hS hS0
  rw [h0] at this
  exact hS.non i j hi hj this.zero
theorem stepN_lt {M : Mn} {k i j : Nat} (hne : stepN M k i j ≠ M i j) : stepN M k i j < M i j := by
  have : stepN M k i j ≤ M i j := Nat.and_le_left
  omega
/-- the places that a pass has come to: (k, i, j) ahead of (K, I, J) -/
def Ahead (K I J k i j : Nat) : Prop := k < K ∨ (k = K ∧ (i < I ∨ (i = I ∧ j < J)))
/-- a pass that has changed nothing has found nothing to change -/
def Quiet (n : Nat) (M : Mn) (K I J : Nat) : Prop := ∀ k i j, k < n → i < n → j < n → Ahead K I J k i j → stepN M k i j = M i j ∧ M i j ≠ 0
theorem Quiet.start (n : Nat) (M : Mn) : Quiet n M 0 0 0 := fun k i j _ _ _ h => by unfold Ahead at h; omega
theorem Quiet.next {n : Nat} {M : Mn} {K I J : Nat} (h : Quiet n M K I J) (h1 : stepN M K I J = M I J) (h2 : M I J ≠ 0) : Quiet n M K I (J + 1) := fun k i j hk hi hj ha => by
  by_cases e : k = K ∧ i = I ∧ j = J
  · obtain ⟨rfl, rfl, rfl⟩ := e; exact ⟨h1, h2⟩
  · exact h k i j hk hi hj (by unfold Ahead at *; omega)
theorem Quiet.row {n : Nat} {M : Mn} {K I : Nat} (h : Quiet n M K I n) : Quiet n M K (I + 1) 0 := fun k i j hk hi hj ha => h k i j hk hi hj (by unfold Ahead at *; omega)
theorem Quiet.mid {n : Nat} {M : Mn} {K : Nat} (h : Quiet n M K n 0) : Quiet n M (K + 1) 0 0 := fun k i j hk hi hj ha => h k i j hk hi hj (by unfold Ahead at *; omega)
theorem Quiet.clo {n : Nat} {M : Mn} (h : Quiet n M n 0 0) : Clo n M :=
  ⟨fun i j hi hj => (h i i j hi hi hj (.inl hi)).2, fun k i j hk hi hj => by
    have := (h k i j hk hi hj (.inl hk)).1
    rw [← this]; exact (and_sub' _ _)⟩
/-- what closed answers: M' is the greatest closed matrix below M0 -/
structure Great (n : Nat) (M0 M' : Mn) : Prop where
  clo : Clo n M'
  inv : CInv n M0 M'
def NoClo (n : Nat) (M0 : Mn) : Prop := ∀ S, Clo n S → ¬ SubM n S M0
theorem Great.uniq {n : Nat} {M0 A B : Mn} (h : Great n M0 A) (h2 : Great n M0 B) : ∀ i j, i < n → j < n → A i j = B i j := fun i j hi hj =>
  Sub.antisymm (h2.inv.all A h.clo h.inv.low i j hi hj) (h.inv.all B h2.clo h2.inv.low i j hi hj)
theorem Great.not {n : Nat} {M0 A : Mn} (h : Great n M0 A) (h2 : NoClo n M0) : False := h2 A h.clo h.inv.low

/-! the other way round -/
def trI (M : Mn) : Mn := fun i j => invN (M j i)
def Sym (n : Nat) (M : Mn) : Prop := ∀ i j, i < n → j < n → M j i = invN (M i j)
theorem trI_clo {n : Nat} {S : Mn} (h : Clo n S) (hl : LtM n S) : Clo n (trI S) := by
  refine ⟨fun i j hi hj e => ?_, fun k i j hk hi hj => ?_⟩
  · unfold trI at e
    exact h.non j i hj hi ((invN_zero (hl j i hj hi)).1 e)
  · unfold trI
    rw [← compN_inv]
    exact invN_mono (h.cl k j i hk hj hi)
theorem trI_sub {n : Nat} {S M : Mn} (h : SubM n S M) (hs : Sym n M) : SubM n (trI S) M := fun i j hi hj => by
  unfold trI
  rw [hs j i hj hi]
  exact invN_mono (h j i hj hi)
theorem sub_lt {a b : Nat} (h : Sub a b) (hb : b < 8192) : a < 8192 := Nat.lt_of_le_of_lt h.le hb
theorem Great.lt {n : Nat} {M0 M : Mn} (h : Great n M0 M) (h0 : LtM n M0) : LtM n M := fun i j hi hj => sub_lt (h.inv.low i j hi hj) (h0 i j hi hj)
theorem Great.sym {n : Nat} {M0 M : Mn} (h : Great n M0 M) (h0 : LtM n M0) (hs : Sym n M0) : Sym n M := fun i j hi hj => by
  have h1 := h.inv.all (trI M) (trI_clo h.clo (h.lt h0)) (trI_sub h.inv.low hs)
  have a := h1 j i hj hi
  have b := invN_mono (h1 i j hi hj)
  unfold trI at a b
  rw [invN_invN (h.lt h0 j i hj hi)] at b
  exact b.antisymm a
end Go.Proofs.YthilkphnjffnhaaGreat

/- The matrix of a network of relations, and scenarios: what the search of network.solved keeps. -/
namespace Go.Proofs.YthilkphnjffnhaaGreat

/-! ### the matrix -/
def initN : Mn := fun i j => if i = j then 64 else 8191
def Rl.p (r : Rl) : Nat := r.i.toNat
def Rl.q (r : Rl) : Nat := r.j.toNat
def Rl.t (r : Rl) : Nat := r.s.toNat
def addR1 (M : Mn) (r : Rl) : Mn := updN M r.p r.q (M r.p r.q &&& r.t)
def addR2 (M : Mn) (r : Rl) : Mn := updN (addR1 M r) r.q r.p (addR1 M r r.q r.p &&& invN r.t)
def addR (M : Mn) (r : Rl) : Mn := if r.p = r.q ∧ addR2 M r r.p r.p = 0 then fun _ _ => 0 else addR2 M r
def matF (l : List Rl) : Mn := l.foldl addR initN
def rlOk (n : Nat) (r : Rl) : Prop := 0 ≤ r.i ∧ r.i < n ∧ 0 ≤ r.j ∧ r.j < n ∧ 0 ≤ r.s ∧ r.s ≤ 8191
theorem initN_lt (n : Nat) : LtM n initN := fun i j _ _ => by unfold initN; split <;> omega
theorem addR2_lt {n : Nat} {M : Mn} (h : LtM n M) {r : Rl} (hr : rlOk n r) : LtM n (addR2 M r) := by
  have hp : r.p < n := by have := hr.1; have := hr.2.1; unfold Rl.p; omega
  have hq : r.q < n := by have := hr.2.2.1; have := hr.2.2.2.1; unfold Rl.q; omega
  have h1 : LtM n (addR1 M r) := h.upd _ _ (and_lt (h _ _ hp hq))
  exact h1.upd _ _ (and_lt (h1 _ _ hq hp))
theorem addR_lt {n : Nat} {M : Mn} (h : LtM n M) {r : Rl} (hr : rlOk n r) : LtM n (addR M r) := by
  unfold addR; split
  · intro _ _ _ _; show 0 < 8192; omega
  · exact addR2_lt h hr
theorem fold_lt_mat {n : Nat} : ∀ (l : List Rl) {M : Mn}, LtM n M → (∀ r ∈ l, rlOk n r) → LtM n (l.foldl addR M)
  | [], _, h, _ => h
  | r :: l, _, h, hr => fold_lt_mat l (addR_lt h (hr r (by simp))) (fun x hx => hr x (by simp [hx]))
theorem matF_lt {n : Nat} {l : List Rl} (h : ∀ r ∈ l, rlOk n r) : LtM n (matF l) := fold_lt_mat l (initN_lt n) h
theorem matF_snoc (l : List Rl) (r : Rl) : matF (l ++ [r]) = addR (matF l) r := by unfold matF; rw [List.foldl_append]; rfl
theorem matF_take {l : List Rl} {k : Nat} (h : k < l.length) : matF (l.take (k + 1)) = addR (matF (l.take k)) l[k] := by
  rw [List.take_succ_eq_append_getElem h, matF_snoc]
theorem addR2_bit (M : Mn) (r : Rl) (a b t : Nat) : (addR2 M r a b).testBit t = true ↔ (M a b).testBit t = true ∧ (a = r.p ∧ b = r.q → r.t.testBit t = true) ∧ (a = r.q ∧ b = r.p → (invN r.t).testBit t = true) := by
  unfold addR2 addR1 updN
  by_cases h1 : a = r.p ∧ b = r.q <;> by_cases h2 : a = r.q ∧ b = r.p
  · obtain ⟨rfl, rfl⟩ := h1
    have e : r.q = r.p := h2.1.symm
    simp [e, Nat.testBit_and, and_assoc]
  · obtain ⟨rfl, rfl⟩ := h1
    rw [if_neg h2, if_pos ⟨rfl, rfl⟩]
    simp [h2, Nat.testBit_and]
  · obtain ⟨rfl, rfl⟩ := h2
    rw [if_pos ⟨rfl, rfl⟩, if_neg h1]
    simp [h1, Nat.testBit_and]
  · rw [if_neg h2, if_neg h1]
    simp [h1, h2]
def badR (r : Rl) : Prop := r.p = r.q ∧ r.t.testBit 6 = false
theorem bit64 {t : Nat} : (64 : Nat).testBit t = true ↔ t = 6 := by
  rw [show 64 = 2 ^ 6 from rfl, bit_pow]; simp [eq_comm]
theorem matF_bit : ∀ (l : List Rl) (a b t : Nat), (matF l a b).testBit t = true ↔ (∀ r ∈ l, ¬ badR r) ∧ (initN a b).testBit t = true ∧ ∀ r ∈ l, (a = r.p ∧ b = r.q → r.t.testBit t = true) ∧ (a = r.q ∧ b = r.p → (invN r.t).testBit t = true) := by
  suffices H : ∀ (k : Nat) (l : List Rl), l.length = k → ∀ a b t, (matF l a b).testBit t = true ↔ (∀ r ∈ l, ¬ badR r) ∧ (initN a b).testBit t = true ∧ ∀ r ∈ l, (a = r.p ∧ b = r.q → r.t.testBit t = true) ∧ (a = r.q ∧ b = r.p → (invN r.t).testBit t = true) from fun l => H _ l rfl
  intro k
  induction k with
  | zero =>
    intro l hl a b t
    obtain rfl : l = [] := List.length_eq_zero_iff.1 hl
    simp [matF]
  | succ k ih =>
    intro l hl a b t
    obtain ⟨l', r, rfl⟩ : ∃ l' r, l = l' ++ [r] := ⟨l.dropLast, l.getLast (by intro e; simp [e] at hl), (List.dropLast_concat_getLast _).symm⟩
    have hl' : l'.length = k := by simpa using hl
    have IH := ih l' hl'
    rw [matF_snoc]
    have key : (∀ r ∈ l', ¬ badR r) → (r.p = r.q ∧ addR2 (matF l') r r.p r.p = 0 ↔ badR r) := fun hno => by
      unfold badR
      constructor
      · rintro ⟨e, h0⟩
        refine ⟨e, ?_⟩
        cases h6 : r.t.testBit 6 with
        | false => rfl
        | true =>
          have h1 : (addR2 (matF l') r r.p r.p).testBit 6 = true := by
            rw [addR2_bit]
            refine ⟨(IH _ _ _).2 ⟨hno, by simp [initN]; decide, fun x hx => ?_⟩, fun _ => h6, fun _ => ?_⟩
            · have hx6 : x.p = x.q → x.t.testBit 6 = true := fun e => by
                cases h : x.t.testBit 6 with
                | false => exact absurd ⟨e, h⟩ (hno x hx)
                | true => rfl
              exact ⟨fun h => hx6 (h.1.symm.trans h.2), fun h => invN_bit.2 ⟨by omega, hx6 (h.2.symm.trans h.1)⟩⟩
            · exact invN_bit.2 ⟨by omega, h6⟩
          rw [h0] at h1; simp at h1
      · rintro ⟨e, h6⟩
        refine ⟨e, ?_⟩
        apply Nat.eq_of_testBit_eq
        intro t
        rw [Nat.zero_testBit]
        cases h1 : (addR2 (matF l') r r.p r.p).testBit t with
        | false => rfl
        | true =>
          rw [addR2_bit] at h1
          have h2 := ((IH _ _ _).1 h1.1).2.1
          simp only [initN, if_true] at h2
          rw [bit64] at h2
          subst h2
          rw [h1.2.1 ⟨rfl, e⟩] at h6; cases h6
    unfold addR
    simp only [List.mem_append, List.mem_singleton]
    split
    · rename_i hc
      simp only [Nat.zero_testBit]
      constructor
      · intro h; cases h
      · rintro ⟨h, _⟩
        exact absurd ((key fun x hx => h x (.inl hx)).1 hc) (h r (.inr rfl))
    · rename_i hc
      rw [addR2_bit, IH]
      constructor
      · rintro ⟨⟨h1, h2, h3⟩, h4⟩
        refine ⟨fun x hx => ?_, h2, fun x hx => ?_⟩
        · rcases hx with hx | rfl
          · exact h1 x hx
          · exact fun hb => hc ((key h1).2 hb)
        · rcases hx with hx | rfl
          · exact h3 x hx
          · exact h4
      · rintro ⟨h1, h2, h3⟩
        exact ⟨⟨fun x hx => h1 x (.inl hx), h2, fun x hx => h3 x (.inl hx)⟩, h3 r (.inr rfl)⟩
theorem initN_bit {a b t : Nat} : (initN a b).testBit t = true ↔ if a = b then t = 6 else t < 13 := by
  unfold initN
  split
  · exact bit64
  · constructor
    · intro h; exact bit_lt (by decide) h
    · intro h
      have : ∀ t, t < 13 → (8191 : Nat).testBit t = true := by decide
      exact this t h
theorem matF_sym (n : Nat) {l : List Rl} (hl : ∀ r ∈ l, rlOk n r) : Sym n (matF l) := fun i j hi hj => by
  apply bits_ext (matF_lt hl j i hj hi) (invN_lt _)
  intro t ht
  rw [Bool.eq_iff_iff, invN_bit, matF_bit, matF_bit, initN_bit, initN_bit]
  have hr : ∀ r ∈ l, r.t < 8192 := fun r hr => by have := hl r hr; unfold rlOk at this; unfold Rl.t; omega
  have hinv : ∀ r ∈ l, ((invN r.t).testBit (12 - t) = true ↔ r.t.testBit t = true) := fun r hr => by
    rw [invN_bit, show 12 - (12 - t) = t by omega]
    exact ⟨fun h => h.2, fun h => ⟨by omega, h⟩⟩
  have hinv' : ∀ r ∈ l, ((invN r.t).testBit t = true ↔ r.t.testBit (12 - t) = true) := fun r hr => by
    rw [invN_bit]
    exact ⟨fun h => h.2, fun h => ⟨ht, h⟩⟩
  constructor
  · rintro ⟨h1, h2, h3⟩
    refine ⟨ht, h1, ?_, fun r hr => ⟨fun h => ?_, fun h => ?_⟩⟩
    · by_cases e : i = j
      · rw [if_pos e.symm] at h2; rw [if_pos e]; omega
      · rw [if_neg e]; omega
    · exact (hinv' r hr).1 ((h3 r hr).2 ⟨h.2, h.1⟩)
    · exact (hinv r hr).2 ((h3 r hr).1 ⟨h.2, h.1⟩)
  · rintro ⟨_, h1, h2, h3⟩
    refine ⟨h1, ?_, fun r hr => ⟨fun h => ?_, fun h => ?_⟩⟩
    · by_cases e : i = j
      · rw [if_pos e] at h2; rw [if_pos e.symm]; omega
      · rw [if_neg (fun h => e h.symm)]; exact ht
    · exact (hinv r hr).1 ((h3 r hr).2 ⟨h.2, h.1⟩)
    · exact (hinv' r hr).2 ((h3 r hr).1 ⟨h.2, h.1⟩)
def Diag (n : Nat) (M : Mn) : Prop := ∀ i, i < n → Sub (M i i) 64
theorem matF_diag (n : Nat) (l : List Rl) : Diag n (matF l) := fun i _ t ht => by
  have := ((matF_bit l i i t).1 ht).2.1
  rw [initN_bit, if_pos rfl] at this
  exact bit64.2 this

/-! ### scenarios -/
def Single (s : Nat) : Prop := ∃ r, r < 13 ∧ s = 2 ^ r
def Atom (n : Nat) (S : Mn) : Prop := ∀ i j, i < n → j < n → Single (S i j)
structure Scen (n : Nat) (M S : Mn) : Prop where
  clo : Clo n S
  sym : Sym n S
  atom : Atom n S
  sub : SubM n S M
theorem sub_pow {s r : Nat} (h : Sub s (2 ^ r)) (h0 : s ≠ 0) : s = 2 ^ r := by
  apply h.antisymm
  intro t ht
  rw [bit_pow, decide_eq_true_eq] at ht
  subst ht
  obtain ⟨t, ht⟩ : ∃ t, s.testBit t = true := by
    obtain ⟨t, ht⟩ := Nat.exists_testBit_of_ne_zero h0
    exact ⟨t, ht⟩
  have := h t ht
  rw [bit_pow, decide_eq_true_eq] at this
  subst this; exact ht
theorem single_bits {s : Nat} (hs : s < 8192) (h : (bitsL s).length = 1) : Single s := by
  obtain ⟨r, hr⟩ := List.length_eq_one_iff.1 h
  have hm : r ∈ bitsL s := by rw [hr]; simp
  rw [mem_bits] at hm
  refine ⟨r, hm.1, bits_ext hs (Nat.lt_of_lt_of_le (Nat.pow_lt_pow_right (by omega) hm.1) (Nat.le_refl _)) fun t ht => ?_⟩
  rw [bit_pow]
  by_cases e : r = t
  · subst e; simp [hm.2]
  · have : t ∉ bitsL s := by rw [hr]; simp; omega
    rw [mem_bits] at this
    simp [e]
    cases h : s.testBit t with
    | false => rfl
    | true => exact absurd ⟨ht, h⟩ this
theorem invN_pow {r : Nat} (hr : r < 13) : invN (2 ^ r) = 2 ^ (12 - r) := by
  have : ∀ r, r < 13 → invN (2 ^ r) = 2 ^ (12 - r) := by decide
  exact this r hr
theorem pow_lt {r : Nat} (hr : r < 13) : 2 ^ r < 8192 := Nat.lt_of_lt_of_le (Nat.pow_lt_pow_right (by omega) hr) (Nat.le_refl _)

/-- what solved goes on with when it answers yes -/
structure Done (n : Nat) (M0 M : Mn) : Prop where
  clo : Clo n M
  sym : Sym n M
  sub : SubM n M M0
  one : ∀ i j, i < n → j < i → (bitsL (M i j)).length = 1
theorem Done.scen {n : Nat} {M0 M : Mn} (h : Done n M0 M) (hl : LtM n M0) (hd : Diag n M0) : Scen n M0 M := by
  have hlt : LtM n M := fun i j hi hj => sub_lt (h.sub i j hi hj) (hl i j hi hj)
  refine ⟨h.clo, h.sym, fun i j hi hj => ?_, h.sub⟩
  rcases Nat.lt_trichotomy j i with e | e | e
  · exact single_bits (hlt i j hi hj) (h.one i j hi e)
  · subst e
    exact ⟨6, by omega, sub_pow ((h.sub j j hj hj).trans (hd j hj)) (h.clo.non j j hj hj)⟩
  · obtain ⟨r, hr, e2⟩ := single_bits (hlt j i hj hi) (h.one j i hj e)
    exact ⟨12 - r, by omega, by rw [h.sym j i hj hi, e2, invN_pow hr]⟩
theorem Scen.mono {n : Nat} {A B S : Mn} (h : Scen n A S) (h2 : SubM n A B) : Scen n B S := ⟨h.clo, h.sym, h.atom, h.sub.trans h2⟩
theorem noClo_scen {n : Nat} {M0 : Mn} (h : NoClo n M0) : ∀ S, ¬ Scen n M0 S := fun S hS => h S hS.clo hS.sub
/-- the places (i, j) with j < i ahead of (I, J) have one relation -/
def OneTo (n : Nat) (M : Mn) (I J : Nat) : Prop := ∀ i j, i < n → j < i → (i < I ∨ (i = I ∧ j < J)) → (bitsL (M i j)).length = 1
theorem OneTo.start (n : Nat) (M : Mn) : OneTo n M 0 0 := fun i j _ _ h => by omega
theorem OneTo.next {n : Nat} {M : Mn} {I J : Nat} (h : OneTo n M I J) (h1 : (bitsL (M I J)).length = 1) : OneTo n M I (J + 1) := fun i j hi hj ha => by
  by_cases e : i = I ∧ j = J
  · obtain ⟨rfl, rfl⟩ := e; exact h1
  · exact h i j hi hj (by omega)
theorem OneTo.row {n : Nat} {M : Mn} {I : Nat} (h : OneTo n M I I) : OneTo n M (I + 1) 0 := fun i j hi hj ha => h i j hi hj (by omega)
theorem OneTo.done {n : Nat} {M0 M : Mn} (h : OneTo n M n 0) (hG : Great n M0 M) (hs : Sym n M) : Done n M0 M := ⟨hG.clo, hs, hG.inv.low, fun i j hi hj => h i j hi hj (.inl hi)⟩
/-- one relation picked at (i, j) -/
def pickN (M : Mn) (i j r : Nat) : Mn := updN (updN M i j (2 ^ r)) j i (2 ^ (12 - r))
theorem pick_sub {n : Nat} {M : Mn} {i j r : Nat} (hi : i < n) (hj : j < n) (hne : i ≠ j) (hs : Sym n M) (hr : r ∈ bitsL (M i j)) : SubM n (pickN M i j r) M := fun a b ha hb => by
  rw [mem_bits] at hr
  unfold pickN
  by_cases e : a = j ∧ b = i
  · obtain ⟨rfl, rfl⟩ := e
    rw [updN_same]
    intro t ht
    rw [bit_pow, decide_eq_true_eq] at ht
    subst ht
    rw [hs b a hi hj, invN_bit]
    refine ⟨by omega, ?_⟩
    rw [show 12 - (12 - r) = r by omega]; exact hr.2
  · rw [updN_ne e]
    by_cases e2 : a = i ∧ b = j
    · obtain ⟨rfl, rfl⟩ := e2
      rw [updN_same]
      intro t ht
      rw [bit_pow, decide_eq_true_eq] at ht
      subst ht; exact hr.2
    · rw [updN_ne e2]; exact Sub.refl _
theorem pick_sym {n : Nat} {M : Mn} {i j r : Nat} (hne : i ≠ j) (hs : Sym n M) (hr : r < 13) : Sym n (pickN M i j r) := fun a b ha hb => by
  unfold pickN
  by_cases e : a = i ∧ b = j
  · obtain ⟨rfl, rfl⟩ := e
    rw [updN_same, updN_ne (fun h => hne h.1), updN_same, invN_pow hr]
  · by_cases e2 : a = j ∧ b = i
    · obtain ⟨rfl, rfl⟩ := e2
      rw [updN_same, updN_ne (fun h => hne h.1), updN_same, invN_pow (by omega), show 12 - (12 - r) = r by omega]
    · rw [updN_ne (fun h => e ⟨h.2, h.1⟩), updN_ne (fun h => e2 ⟨h.2, h.1⟩), updN_ne e2, updN_ne e, hs a b ha hb]
theorem pick_diag {n : Nat} {M : Mn} {i j r : Nat} (hne : i ≠ j) (hd : Diag n M) : Diag n (pickN M i j r) := fun a ha => by
  unfold pickN
  rw [updN_ne (fun h => hne (h.2.symm.trans h.1)), updN_ne (fun h => hne (h.1.symm.trans h.2))]
  exact hd a ha
theorem pick_lt {n : Nat} {M : Mn} {i j r : Nat} (hl : LtM n M) (hr : r < 13) : LtM n (pickN M i j r) := (hl.upd i j (pow_lt hr)).upd j i (pow_lt (by omega))
theorem pick_mu {n : Nat} {M : Mn} {i j r : Nat} (hi : i < n) (hj : j < n) (hne : i ≠ j) (hs : Sym n M) (hr : r ∈ bitsL (M i j)) (h1 : (bitsL (M i j)).length ≠ 1) : muN n (pickN M i j r) < muN n M := by
  have hsub := pick_sub hi hj hne hs hr
  have e1 : pickN M i j r i j = 2 ^ r := by unfold pickN; rw [updN_ne (fun h => hne h.1), updN_same]
  have e2 : pickN M i j r j i = 2 ^ (12 - r) := updN_same _ _ _ _
  have l1 := (hsub i j hi hj).le
  have l2 := (hsub j i hj hi).le
  rw [e1] at l1
  rw [e2] at l2
  have hne2 : 2 ^ r ≠ M i j := fun e => h1 (by
    rw [← e]
    have : ∀ r, r < 13 → (bitsL (2 ^ r)).length = 1 := by decide
    exact this r (mem_bits.1 hr).1)
  have m1 := muN_upd (M := M) (x := 2 ^ r) hi hj
  have m2 := muN_upd (M := updN M i j (2 ^ r)) (x := 2 ^ (12 - r)) hj hi
  rw [updN_ne (fun h => hne h.1.symm)] at m2
  unfold pickN
  omega
theorem pick_scen {n : Nat} {M S : Mn} {i j : Nat} (hi : i < n) (hj : j < n) (hne : i ≠ j) (hS : Scen n M S) : ∃ r ∈ bitsL (M i j), Scen n (pickN M i j r) S := by
  obtain ⟨r, hr, e⟩ := hS.atom i j hi hj
  have hb : (M i j).testBit r = true := hS.sub i j hi hj r (by rw [e, bit_pow]; simp)
  refine ⟨r, mem_bits.2 ⟨hr, hb⟩, hS.clo, hS.sym, hS.atom, fun a b ha hb => ?_⟩
  unfold pickN
  by_cases e1 : a = j ∧ b = i
  · obtain ⟨rfl, rfl⟩ := e1
    rw [updN_same, hS.sym b a hi hj, e, invN_pow hr]
    exact Sub.refl _
  · rw [updN_ne e1]
    by_cases e2 : a = i ∧ b = j
    · obtain ⟨rfl, rfl⟩ := e2
      rw [updN_same, e]; exact Sub.refl _
    · rw [updN_ne e2]; exact hS.sub a b ha hb
theorem Great.scen {n : Nat} {M0 M S : Mn} (h : Great n M0 M) (hS : Scen n M0 S) : Scen n M S := ⟨hS.clo, hS.sym, hS.atom, h.inv.all S hS.clo hS.sub⟩
theorem muN_le {n : Nat} {A B : Mn} (h : SubM n A B) : muN n A ≤ muN n B := by
  have key : ∀ (m : Nat) (f g : Nat → Nat), (∀ i, i < m → f i ≤ g i) → sumR m f ≤ sumR m g := fun m f g hfg => by
    induction m with
    | zero => exact Nat.le_refl _
    | succ m ih =>
      have := ih (fun i hi => hfg i (by omega))
      have := hfg m (by omega)
      rw [sumR, sumR]; omega
  exact key n _ _ fun i hi => key n _ _ fun j hj => (h i j hi hj).le
end Go.Proofs.YthilkphnjffnhaaGreat
