/- Sets of Allen's relations as numbers: members, inverse, composition; and what a closed matrix of such sets is. -/
import Derived.Test.YthilkphnjffnhaaGreatBase
set_option linter.unusedSimpArgs false
set_option linter.unusedVariables false
namespace Go.Proofs.YthilkphnjffnhaaGreat

/-- the relation from one span to another -/
def relF (s t : Sp) : Int :=
  if s.b < t.a then 0 else if s.b = t.a then 1 else if t.b < s.a then 12 else if s.a = t.b then 11 else
  if s.a < t.a then (if s.b < t.b then 2 else if s.b = t.b then 7 else 8)
  else if s.a = t.a then (if s.b < t.b then 3 else if s.b = t.b then 6 else 9)
  else (if s.b < t.b then 4 else if s.b = t.b then 5 else 10)
theorem relF_bd (s t : Sp) : 0 ≤ relF s t ∧ relF s t ≤ 12 := by
  unfold relF; repeat' split
  all_goals omega
set_option maxHeartbeats 4000000 in
theorem relF_inv {s t : Sp} (hs : s.a < s.b) (ht : t.a < t.b) : relF t s = 12 - relF s t := by
  unfold relF; repeat' split
  all_goals omega
theorem relF_self (s : Sp) (h : s.a < s.b) : relF s s = 6 := by
  unfold relF; repeat' split
  all_goals omega
theorem relF_eq {s t : Sp} (hs : s.a < s.b) (ht : t.a < t.b) (h : relF s t = 6) : s = t := by
  obtain ⟨a, b⟩ := s; obtain ⟨c, d⟩ := t
  unfold relF at h
  simp only [Sp.mk.injEq]
  simp only at h hs ht
  repeat' split at h
  all_goals omega

/-- the spans between 0 and 5 -/
def spL : List Sp := (List.range 5).flatMap fun f => (List.range (5 - f)).map fun (t : Nat) => ⟨(f : Int), (f : Int) + (t : Int) + 1⟩
theorem spL_ok : ∀ s ∈ spL, s.a < s.b := by decide
def relN (s t : Sp) : Nat := (relF s t).toNat
theorem relN_le (s t : Sp) : relN s t ≤ 12 := by have := relF_bd s t; unfold relN; omega

/-! ### members -/
theorem bit_fold {α : Type} (f : α → Nat) (t : Nat) : ∀ (l : List α) (o : Nat), (l.foldl (fun o r => o ||| f r) o).testBit t = (o.testBit t || l.any fun r => (f r).testBit t)
  | [], o => by simp
  | x :: l, o => by rw [List.foldl_cons, bit_fold f t l, Nat.testBit_or, List.any_cons, Bool.or_assoc]
theorem fold_lt {α : Type} (f : α → Nat) (n : Nat) : ∀ (l : List α) (o : Nat), o < 2 ^ n → (∀ x ∈ l, f x < 2 ^ n) → l.foldl (fun o r => o ||| f r) o < 2 ^ n
  | [], o, h, _ => h
  | x :: l, o, h, hx => fold_lt f n l _ (Nat.or_lt_two_pow h (hx x (by simp))) (fun y hy => hx y (by simp [hy]))
def bitsL (s : Nat) : List Nat := (List.range 13).filter fun r => s.testBit r
theorem mem_bits {s r : Nat} : r ∈ bitsL s ↔ r < 13 ∧ s.testBit r = true := by simp [bitsL]
theorem bit_lt {s r : Nat} (hs : s < 8192) (h : s.testBit r = true) : r < 13 := by
  by_cases hr : r < 13
  · exact hr
  · have : s < 2 ^ r := Nat.lt_of_lt_of_le hs (by rw [show 8192 = 2 ^ 13 from rfl]; exact Nat.pow_le_pow_right (by omega) (by omega))
    rw [Nat.testBit_lt_two_pow this] at h; cases h
theorem bit_pow (a b : Nat) : (2 ^ a).testBit b = decide (a = b) := by rw [Nat.testBit_two_pow]

/-! ### the inverse -/
def invN (s : Nat) : Nat := (bitsL s).foldl (fun o r => o ||| 2 ^ (12 - r)) 0
theorem invN_bit {s t : Nat} : (invN s).testBit t = true ↔ t < 13 ∧ s.testBit (12 - t) = true := by
  unfold invN
  rw [bit_fold]
  simp only [Nat.zero_testBit, Bool.false_or, List.any_eq_true, bit_pow, decide_eq_true_eq, mem_bits]
  constructor
  · rintro ⟨r, ⟨h1, h2⟩, h3⟩
    subst h3
    refine ⟨by omega, ?_⟩
    rw [show 12 - (12 - r) = r by omega]; exact h2
  · rintro ⟨h1, h2⟩
    exact ⟨12 - t, ⟨by omega, h2⟩, by omega⟩
theorem invN_lt (s : Nat) : invN s < 8192 := fold_lt _ 13 _ _ (by decide) (fun x _ => by
  have : 2 ^ (12 - x) ≤ 2 ^ 12 := Nat.pow_le_pow_right (by omega) (by omega)
  exact Nat.lt_of_le_of_lt this (by decide))
theorem bits_ext {a b : Nat} (ha : a < 8192) (hb : b < 8192) (h : ∀ t, t < 13 → a.testBit t = b.testBit t) : a = b := by
  apply Nat.eq_of_testBit_eq
  intro t
  by_cases ht : t < 13
  · exact h t ht
  · have : ∀ c, c < 8192 → c.testBit t = false := fun c hc => by
      cases e : c.testBit t with
      | false => rfl
      | true => exact absurd (bit_lt hc e) ht
    rw [this a ha, this b hb]
theorem invN_invN {s : Nat} (h : s < 8192) : invN (invN s) = s := by
  apply bits_ext (invN_lt _) h
  intro t ht
  rw [Bool.eq_iff_iff, invN_bit, invN_bit]
  rw [show 12 - (12 - t) = t by omega]
  constructor
  · rintro ⟨_, _, h⟩; exact h
  · intro h; exact ⟨ht, by omega, h⟩
theorem invN_zero {s : Nat} (h : s < 8192) : invN s = 0 ↔ s = 0 := by
  constructor
  · intro e
    have := invN_invN h
    rw [e] at this
    rw [← this]; rfl
  · rintro rfl; rfl

/-! ### the composition -/
def tabStep (T : Nat → Nat → Nat) (x y z : Sp) : Nat → Nat → Nat := fun p q => if p = relN x y ∧ q = relN y z then T p q ||| 2 ^ relN x z else T p q
def tabZ (T : Nat → Nat → Nat) (x y : Sp) (l : List Sp) : Nat → Nat → Nat := l.foldl (fun T z => tabStep T x y z) T
def tabY (T : Nat → Nat → Nat) (x : Sp) (l : List Sp) : Nat → Nat → Nat := l.foldl (fun T y => tabZ T x y spL) T
def tabX (l : List Sp) : Nat → Nat → Nat := l.foldl (fun T x => tabY T x spL) (fun _ _ => 0)
def tabF : Nat → Nat → Nat := tabX spL
theorem tabZ_bit (x y : Sp) (p q t : Nat) : ∀ (l : List Sp) (T : Nat → Nat → Nat), (tabZ T x y l p q).testBit t = true ↔ (T p q).testBit t = true ∨ ∃ z ∈ l, p = relN x y ∧ q = relN y z ∧ t = relN x z
  | [], T => by simp [tabZ]
  | z :: l, T => by
    have ih := tabZ_bit x y p q t l (tabStep T x y z)
    unfold tabZ at ih ⊢
    rw [List.foldl_cons, ih]
    unfold tabStep
    constructor
    · rintro (h | ⟨z', hz, h⟩)
      · split at h
        · rename_i hc
          rw [Nat.testBit_or, Bool.or_eq_true, bit_pow, decide_eq_true_eq] at h
          rcases h with h | h
          · exact .inl h
          · exact .inr ⟨z, by simp, hc.1, hc.2, h.symm⟩
        · exact .inl h
      · exact .inr ⟨z', by simp [hz], h⟩
    · rintro (h | ⟨z', hz, h1, h2, h3⟩)
      · left
        split
        · rw [Nat.testBit_or, h]; rfl
        · exact h
      · rcases List.mem_cons.1 hz with rfl | hz
        · left
          rw [if_pos ⟨h1, h2⟩, Nat.testBit_or, bit_pow, h3]; simp
        · exact .inr ⟨z', hz, h1, h2, h3⟩
theorem tabY_bit (x : Sp) (p q t : Nat) : ∀ (l : List Sp) (T : Nat → Nat → Nat), (tabY T x l p q).testBit t = true ↔ (T p q).testBit t = true ∨ ∃ y ∈ l, ∃ z ∈ spL, p = relN x y ∧ q = relN y z ∧ t = relN x z
  | [], T => by simp [tabY]
  | y :: l, T => by
    have ih := tabY_bit x p q t l (tabZ T x y spL)
    unfold tabY at ih ⊢
    rw [List.foldl_cons, ih, tabZ_bit]
    constructor
    · rintro ((h | ⟨z, hz, h⟩) | ⟨y', hy, h⟩)
      · exact .inl h
      · exact .inr ⟨y, by simp, z, hz, h⟩
      · exact .inr ⟨y', by simp [hy], h⟩
    · rintro (h | ⟨y', hy, z, hz, h⟩)
      · exact .inl (.inl h)
      · rcases List.mem_cons.1 hy with rfl | hy
        · exact .inl (.inr ⟨z, hz, h⟩)
        · exact .inr ⟨y', hy, z, hz, h⟩
theorem tabX_bit (p q t : Nat) : ∀ (l : List Sp) (T : Nat → Nat → Nat), (l.foldl (fun T x => tabY T x spL) T p q).testBit t = true ↔ (T p q).testBit t = true ∨ ∃ x ∈ l, ∃ y ∈ spL, ∃ z ∈ spL, p = relN x y ∧ q = relN y z ∧ t = relN x z
  | [], T => by simp
  | x :: l, T => by
    rw [List.foldl_cons, tabX_bit p q t l, tabY_bit]
    constructor
    · rintro ((h | ⟨y, hy, z, hz, h⟩) | ⟨x', hx, h⟩)
      · exact .inl h
      · exact .inr ⟨x, by simp, y, hy, z, hz, h⟩
      · exact .inr ⟨x', by simp [hx], h⟩
    · rintro (h | ⟨x', hx, y, hy, z, hz, h⟩)
      · exact .inl (.inl h)
      · rcases List.mem_cons.1 hx with rfl | hx
        · exact .inl (.inr ⟨y, hy, z, hz, h⟩)
        · exact .inr ⟨x', hx, y, hy, z, hz, h⟩
theorem tabF_bit {p q t : Nat} : (tabF p q).testBit t = true ↔ ∃ x ∈ spL, ∃ y ∈ spL, ∃ z ∈ spL, p = relN x y ∧ q = relN y z ∧ t = relN x z := by
  unfold tabF tabX
  rw [tabX_bit]; simp
def BdT (T : Nat → Nat → Nat) : Prop := ∀ p q, T p q < 8192
theorem tabZ_lt {x y : Sp} : ∀ (l : List Sp) {T : Nat → Nat → Nat}, BdT T → BdT (tabZ T x y l)
  | [], T, h => h
  | z :: l, T, h => tabZ_lt l (T := tabStep T x y z) fun p q => by
    unfold tabStep
    split
    · exact Nat.or_lt_two_pow (n := 13) (h p q) (Nat.lt_of_le_of_lt (Nat.pow_le_pow_right (by omega) (relN_le x z)) (by decide))
    · exact h p q
theorem tabY_lt {x : Sp} : ∀ (l : List Sp) {T : Nat → Nat → Nat}, BdT T → BdT (tabY T x l)
  | [], T, h => h
  | y :: l, T, h => tabY_lt l (T := tabZ T x y spL) (tabZ_lt spL h)
theorem tabX_lt' : ∀ (l : List Sp) {T : Nat → Nat → Nat}, BdT T → BdT (l.foldl (fun T x => tabY T x spL) T)
  | [], T, h => h
  | x :: l, T, h => tabX_lt' l (T := tabY T x spL) (tabY_lt spL h)
theorem tabX_lt (l : List Sp) : BdT (tabX l) := tabX_lt' l (fun _ _ => by decide)
theorem tabF_lt (p q : Nat) : tabF p q < 8192 := tabX_lt spL p q

def compN (a b : Nat) : Nat := (bitsL a).foldl (fun o r => (bitsL b).foldl (fun o s => o ||| tabF r s) o) 0
theorem comp_fold (f : Nat → Nat → Nat) (lb : List Nat) (t : Nat) : ∀ (la : List Nat) (o : Nat), (la.foldl (fun o r => lb.foldl (fun o s => o ||| f r s) o) o).testBit t = (o.testBit t || la.any fun r => lb.any fun s => (f r s).testBit t)
  | [], o => by simp
  | x :: l, o => by rw [List.foldl_cons, comp_fold f lb t l, bit_fold, List.any_cons, Bool.or_assoc]
theorem compN_bit {a b t : Nat} : (compN a b).testBit t = true ↔ ∃ r s, (r < 13 ∧ a.testBit r = true) ∧ (s < 13 ∧ b.testBit s = true) ∧ (tabF r s).testBit t = true := by
  unfold compN
  rw [comp_fold]
  simp only [Nat.zero_testBit, Bool.false_or, List.any_eq_true, mem_bits]
  constructor
  · rintro ⟨r, hr, s, hs, h⟩; exact ⟨r, s, hr, hs, h⟩
  · rintro ⟨r, s, hr, hs, h⟩; exact ⟨r, hr, s, hs, h⟩
theorem comp_lt' (lb : List Nat) : ∀ (la : List Nat) (o : Nat), o < 8192 → la.foldl (fun o r => lb.foldl (fun o s => o ||| tabF r s) o) o < 8192
  | [], _, h => h
  | r :: l, o, h => comp_lt' lb l _ (fold_lt _ 13 lb o h (fun s _ => tabF_lt r s))
theorem compN_lt (a b : Nat) : compN a b < 8192 := comp_lt' _ _ _ (by decide)
/-- part of -/
def Sub (a b : Nat) : Prop := ∀ t, a.testBit t = true → b.testBit t = true
theorem Sub.refl (a : Nat) : Sub a a := fun _ h => h
theorem Sub.trans {a b c : Nat} (h : Sub a b) (h2 : Sub b c) : Sub a c := fun t ht => h2 t (h t ht)
theorem Sub.antisymm {a b : Nat} (h : Sub a b) (h2 : Sub b a) : a = b := by
  apply Nat.eq_of_testBit_eq
  intro t
  rw [Bool.eq_iff_iff]; exact ⟨h t, h2 t⟩
theorem Sub.and {a b c : Nat} (h : Sub a b) (h2 : Sub a c) : Sub a (b &&& c) := fun t ht => by rw [Nat.testBit_and, h t ht, h2 t ht]; rfl
theorem and_sub (a b : Nat) : Sub (a &&& b) a := fun t ht => by rw [Nat.testBit_and, Bool.and_eq_true] at ht; exact ht.1
theorem and_sub' (a b : Nat) : Sub (a &&& b) b := fun t ht => by rw [Nat.testBit_and, Bool.and_eq_true] at ht; exact ht.2
theorem Sub.zero {a : Nat} (h : Sub a 0) : a = 0 := h.antisymm (fun t ht => by simp at ht)
theorem Sub.le {a b : Nat} (h : Sub a b) : a ≤ b := by
  have : a = b &&& a := Sub.antisymm (h.and (Sub.refl a)) (and_sub' _ _)
  rw [this]; exact Nat.and_le_left
theorem compN_mono {a b a' b' : Nat} (h : Sub a a') (h2 : Sub b b') : Sub (compN a b) (compN a' b') := fun t ht => by
  rw [compN_bit] at ht ⊢
  obtain ⟨r, s, ⟨hr, hr'⟩, ⟨hs, hs'⟩, h3⟩ := ht
  exact ⟨r, s, ⟨hr, h r hr'⟩, ⟨hs, h2 s hs'⟩, h3⟩
theorem invN_mono {a b : Nat} (h : Sub a b) : Sub (invN a) (invN b) := fun t ht => by
  rw [invN_bit] at ht ⊢
  exact ⟨ht.1, h _ ht.2⟩
theorem tabF_inv {p q t : Nat} (hp : p < 13) (hq : q < 13) (ht : t < 13) : (tabF (12 - q) (12 - p)).testBit (12 - t) = (tabF p q).testBit t := by
  have key : ∀ {p q t : Nat}, p < 13 → q < 13 → t < 13 → (tabF p q).testBit t = true → (tabF (12 - q) (12 - p)).testBit (12 - t) = true := fun {p q t} hp hq ht h => by
    rw [tabF_bit] at h ⊢
    obtain ⟨x, hx, y, hy, z, hz, h1, h2, h3⟩ := h
    have e : ∀ a ∈ spL, ∀ b ∈ spL, relN b a = 12 - relN a b := fun a ha b hb => by
      have := relF_inv (spL_ok a ha) (spL_ok b hb)
      have := relF_bd a b
      unfold relN; omega
    exact ⟨z, hz, y, hy, x, hx, by rw [e y hy z hz, ← h2], by rw [e x hx y hy, ← h1], by rw [e x hx z hz, ← h3]⟩
  rw [Bool.eq_iff_iff]
  constructor
  · intro h
    have := key (by omega) (by omega) (by omega) h
    rw [show 12 - (12 - p) = p by omega, show 12 - (12 - q) = q by omega, show 12 - (12 - t) = t by omega] at this
    exact this
  · exact key hp hq ht
theorem tabF_bit_lt {p q t : Nat} (h : (tabF p q).testBit t = true) : t < 13 := bit_lt (tabF_lt p q) h
theorem compN_inv (a b : Nat) : invN (compN a b) = compN (invN b) (invN a) := by
  apply bits_ext (invN_lt _) (compN_lt _ _)
  intro t ht
  rw [Bool.eq_iff_iff, invN_bit, compN_bit, compN_bit]
  constructor
  · rintro ⟨_, r, s, ⟨hr, hr'⟩, ⟨hs, hs'⟩, h⟩
    refine ⟨12 - s, 12 - r, ⟨by omega, ?_⟩, ⟨by omega, ?_⟩, ?_⟩
    · rw [invN_bit]; exact ⟨by omega, by rw [show 12 - (12 - s) = s by omega]; exact hs'⟩
    · rw [invN_bit]; exact ⟨by omega, by rw [show 12 - (12 - r) = r by omega]; exact hr'⟩
    · have := tabF_inv hr hs (show 12 - t < 13 by omega)
      rw [show 12 - (12 - t) = t by omega] at this
      rw [this]; exact h
  · rintro ⟨s, r, ⟨hs, hs'⟩, ⟨hr, hr'⟩, h⟩
    rw [invN_bit] at hs' hr'
    refine ⟨ht, 12 - r, 12 - s, ⟨by omega, hr'.2⟩, ⟨by omega, hs'.2⟩, ?_⟩
    have := tabF_inv hs hr ht
    rw [← this] at h; exact h
/-- the identity: equals -/
theorem compN_id {a : Nat} (ha : a < 8192) : compN 64 a = a := by
  apply bits_ext (compN_lt _ _) ha
  intro t ht
  rw [Bool.eq_iff_iff, compN_bit]
  constructor
  · rintro ⟨r, s, ⟨hr, hr'⟩, ⟨hs, hs'⟩, h⟩
    have e : r = 6 := by
      rw [show 64 = 2 ^ 6 from rfl, bit_pow, decide_eq_true_eq] at hr'; exact hr'.symm
    subst e
    rw [tabF_bit] at h
    obtain ⟨x, hx, y, hy, z, hz, h1, h2, h3⟩ := h
    have := relF_eq (spL_ok x hx) (spL_ok y hy) (by have := relF_bd x y; unfold relN at h1; omega)
    subst this
    rw [h3, ← h2]; exact hs'
  · intro h
    have hex : ∀ t, t < 13 → ∃ x ∈ spL, ∃ z ∈ spL, t = relN x z := by decide
    obtain ⟨x, hx, z, hz, e⟩ := hex t ht
    refine ⟨6, t, ⟨by omega, by decide⟩, ⟨ht, h⟩, ?_⟩
    rw [tabF_bit]
    refine ⟨x, hx, x, hx, z, hz, ?_, e, e⟩
    have := relF_self x (spL_ok x hx)
    unfold relN; omega
theorem compN_id' {a : Nat} (ha : a < 8192) : compN a 64 = a := by
  have h := compN_inv a 64
  rw [show invN 64 = 64 by decide, compN_id (invN_lt a)] at h
  have h2 := congrArg invN h
  rwa [invN_invN (compN_lt _ _), invN_invN ha] at h2
end Go.Proofs.YthilkphnjffnhaaGreat
