/- tightF answers the distances, or none where a closed walk is below 0. -/
import Derived.Test.YthilkphnjffnhaaGreatWlk
import Derived.Test.YthilkphnjffnhaaGreatTgt
import Derived.Test.YthilkphnjffnhaaGreatAddb
set_option linter.unusedSimpArgs false
set_option linter.unusedVariables false
namespace Go.Proofs.YthilkphnjffnhaaGreat

/-- how many below k -/
def cnt (p : Nat → Bool) : Nat → Nat
  | 0 => 0
  | k + 1 => cnt p k + (if p k then 1 else 0)
theorem cnt_le (p : Nat → Bool) : ∀ k, cnt p k ≤ k
  | 0 => Nat.le_refl _
  | k + 1 => by have := cnt_le p k; simp only [cnt]; split <;> omega
theorem cnt_mono {p q : Nat → Bool} : ∀ {k : Nat}, (∀ m, m < k → p m = true → q m = true) → cnt p k ≤ cnt q k
  | 0, _ => Nat.le_refl _
  | k + 1, h => by
    have h1 := cnt_mono (k := k) (fun m hm => h m (by omega))
    have h2 := h k (by omega)
    simp only [cnt]
    cases hp : p k
    · cases q k <;> simp <;> omega
    · rw [h2 hp]; simp; omega
theorem cnt_add {p q r : Nat → Bool} : ∀ {k : Nat}, (∀ m, m < k → p m = true → r m = true) → (∀ m, m < k → q m = true → r m = true) → (∀ m, m < k → ¬ (p m = true ∧ q m = true)) → cnt p k + cnt q k ≤ cnt r k
  | 0, _, _, _ => Nat.le_refl _
  | k + 1, h1, h2, h3 => by
    have i := cnt_add (k := k) (fun m hm => h1 m (by omega)) (fun m hm => h2 m (by omega)) (fun m hm => h3 m (by omega))
    have a1 := h1 k (by omega)
    have a2 := h2 k (by omega)
    have a3 := h3 k (by omega)
    simp only [cnt]
    cases hp : p k <;> cases hq : q k
    · simp; split <;> omega
    · rw [a2 hq]; simp; omega
    · rw [a1 hp]; simp; omega
    · exact absurd ⟨hp, hq⟩ a3

def finB (x : Int) : Bool := decide (x ≠ 4398046511104)
theorem finB_iff {x : Int} : finB x = true ↔ x ≠ 4398046511104 := by simp [finB]
def thru (M : Mx) (a b m : Nat) : Bool := finB (M a m) && finB (M m b)

/-- after k rounds -/
structure Fwk (n k : Nat) (M : Mx) : Prop where
  up : ∀ a b, a < n → b < n → M a b ≤ 4398046511104
  lo : ∀ a b, a < n → b < n → -68719476736 ≤ M a b
  bd : ∀ a b, a < n → b < n → M a b ≠ 4398046511104 → M a b ≤ (1 + cnt (thru M a b) k) * 1073741824
  dg : ∀ a, a < n → M a a = 0
  tri : ∀ a b m, a < n → b < n → m < k → M a b ≤ plusD (M a m) (M m b)

theorem plusD_zero (x : Int) : plusD x 0 = x := by unfold plusD; split <;> omega
theorem zero_plusD (x : Int) : plusD 0 x = x := by unfold plusD; split <;> omega

theorem relaxR_at {k i : Nat} {M : Mx} (h0 : M k k = 0) : ∀ (j : Nat) (a b : Nat), iter (relax1 k i) j M a b = if a = i ∧ b < j then min (M a b) (plusD (M a k) (M k b)) else M a b
  | 0, a, b => by rw [if_neg (by omega)]; rfl
  | j + 1, a, b => by
    have e1 : iter (relax1 k i) j M i k = M i k := by
      rw [relaxR_at h0 j]; split
      · rw [h0, plusD_zero]; exact Int.min_self _
      · rfl
    have e2 : iter (relax1 k i) j M k j = M k j := by
      rw [relaxR_at h0 j, if_neg (by omega)]
    have e3 : iter (relax1 k i) j M i j = M i j := by
      rw [relaxR_at h0 j, if_neg (by omega)]
    show upd (iter (relax1 k i) j M) i j (min (iter (relax1 k i) j M i j) (plusD (iter (relax1 k i) j M i k) (iter (relax1 k i) j M k j))) a b = _
    rw [e1, e2, e3]
    unfold upd
    by_cases h : a = i ∧ b = j
    · obtain ⟨rfl, rfl⟩ := h
      rw [if_pos ⟨rfl, rfl⟩, if_pos ⟨rfl, by omega⟩]
    · rw [if_neg h, relaxR_at h0 j a b]
      by_cases h2 : a = i ∧ b < j
      · rw [if_pos h2, if_pos ⟨h2.1, by omega⟩]
      · rw [if_neg h2, if_neg (by omega)]
theorem relaxK_at {n k : Nat} {M : Mx} (hk : k < n) (h0 : M k k = 0) : ∀ (i : Nat) (a b : Nat), b < n → iter (relaxR n k) i M a b = if a < i then min (M a b) (plusD (M a k) (M k b)) else M a b
  | 0, a, b, _ => by rw [if_neg (by omega)]; rfl
  | i + 1, a, b, hb => by
    have e0 : ∀ b, b < n → iter (relaxR n k) i M k b = M k b := fun b hb => by
      rw [relaxK_at hk h0 i k b hb]; split
      · rw [h0, zero_plusD]; exact Int.min_self _
      · rfl
    have e1 : ∀ a, iter (relaxR n k) i M a k = M a k := fun a => by
      rw [relaxK_at hk h0 i a k hk]; split
      · rw [h0, plusD_zero]; exact Int.min_self _
      · rfl
    show iter (relax1 k i) n (iter (relaxR n k) i M) a b = _
    rw [relaxR_at (by rw [e0 k hk]; exact h0) n a b, e1, e0 b hb, relaxK_at hk h0 i a b hb]
    by_cases h : a = i
    · subst h
      rw [if_pos ⟨rfl, hb⟩, if_neg (by omega), if_pos (by omega)]
    · rw [if_neg (by omega)]
      by_cases h2 : a < i
      · rw [if_pos h2, if_pos (by omega)]
      · rw [if_neg h2, if_neg (by omega)]
theorem relaxK_eq {n k : Nat} {M : Mx} (hk : k < n) (h0 : M k k = 0) {a b : Nat} (ha : a < n) (hb : b < n) : relaxK n k M a b = min (M a b) (plusD (M a k) (M k b)) := by
  show iter (relaxR n k) n M a b = _
  rw [relaxK_at hk h0 n a b hb, if_pos ha]
/-- the diagonal never rises -/
theorem relaxK_diag {n k : Nat} {M : Mx} : ∀ (a b : Nat), relaxK n k M a b ≤ M a b := by
  have h1 : ∀ (i j : Nat) (M : Mx) (a b : Nat), iter (relax1 k i) j M a b ≤ M a b := by
    intro i j
    induction j with
    | zero => intro M a b; exact Int.le_refl _
    | succ j ih =>
      intro M a b
      show upd (iter (relax1 k i) j M) i j _ a b ≤ _
      unfold upd
      split
      · rename_i h; obtain ⟨rfl, rfl⟩ := h
        exact Int.le_trans (Int.min_le_left _ _) (ih M a b)
      · exact ih M a b
  have h2 : ∀ (i : Nat) (M : Mx) (a b : Nat), iter (relaxR n k) i M a b ≤ M a b := by
    intro i
    induction i with
    | zero => intro M a b; exact Int.le_refl _
    | succ i ih => intro M a b; exact Int.le_trans (h1 i n _ a b) (ih M a b)
  exact h2 n M

theorem Fwk.num {n k : Nat} {M : Mx} (h : Fwk n k M) (hk : k ≤ 24) {a b : Nat} (ha : a < n) (hb : b < n) : M a b = 4398046511104 ∨ (-68719476736 ≤ M a b ∧ M a b ≤ 26843545600) := by
  by_cases e : M a b = 4398046511104
  · exact .inl e
  · have h1 := h.bd a b ha hb e
    have h2 := cnt_le (thru M a b) k
    have h3 := h.lo a b ha hb
    exact .inr ⟨h3, by omega⟩
def okD (x : Int) : Prop := x = 4398046511104 ∨ (-68719476736 ≤ x ∧ x ≤ 26843545600)
theorem tri_step {x1 x2 x3 x4 x5 x6 x7 : Int} (n1 : okD x1) (n2 : okD x2) (n3 : okD x3) (n4 : okD x4) (n5 : okD x5) (n6 : okD x6) (n7 : okD x7)
    (t1 : x1 ≤ plusD x4 x5) (t2 : x3 ≤ plusD x6 x5) (t3 : x2 ≤ plusD x4 x7) (t4 : 0 ≤ plusD x6 x7) :
    min x1 (plusD x2 x3) ≤ plusD (min x4 (plusD x2 x6)) (min x5 (plusD x7 x3)) := by
  unfold okD at *
  have c1 : plusD x2 x3 ≤ 4398046511104 := by unfold plusD; split <;> omega
  have c2 : x1 ≤ 4398046511104 := by omega
  -- the four ways
  have w1 : min x1 (plusD x2 x3) ≤ plusD x4 x5 := by omega
  have w2 : min x1 (plusD x2 x3) ≤ plusD (plusD x2 x6) x5 := by
    have : plusD x2 x3 ≤ plusD (plusD x2 x6) x5 := by
      unfold plusD at t2 ⊢
      by_cases a2 : x2 = 4398046511104
      · simp [a2]
      · by_cases a6 : x6 = 4398046511104
        · simp [a6]; split <;> omega
        · by_cases a5 : x5 = 4398046511104
          · simp [a5]; split <;> omega
          · simp only [a2, a6, a5, or_self, if_false, false_or] at t2 ⊢
            clear c1 w1; repeat' split
            all_goals omega
    omega
  have w3 : min x1 (plusD x2 x3) ≤ plusD x4 (plusD x7 x3) := by
    have : plusD x2 x3 ≤ plusD x4 (plusD x7 x3) := by
      unfold plusD at t3 ⊢
      by_cases a3 : x3 = 4398046511104
      · simp [a3]
      · by_cases a7 : x7 = 4398046511104
        · simp [a7]; split <;> omega
        · by_cases a4 : x4 = 4398046511104
          · simp [a4]; split <;> omega
          · simp only [a3, a7, a4, or_self, if_false, or_false, false_or] at t3 ⊢
            clear c1 w1; repeat' split
            all_goals omega
    omega
  have w4 : min x1 (plusD x2 x3) ≤ plusD (plusD x2 x6) (plusD x7 x3) := by
    have : plusD x2 x3 ≤ plusD (plusD x2 x6) (plusD x7 x3) := by
      unfold plusD at t4 ⊢
      by_cases a3 : x3 = 4398046511104
      · simp [a3]
      · by_cases a2 : x2 = 4398046511104
        · simp [a2]
        · by_cases a7 : x7 = 4398046511104
          · simp [a7]; split <;> omega
          · by_cases a6 : x6 = 4398046511104
            · simp [a6]; split <;> omega
            · simp only [a3, a7, a2, a6, or_self, if_false, or_false, false_or] at t4 ⊢
              clear c1 w1 w2 w3; repeat' split
              all_goals omega
    omega
  rcases Int.le_total x4 (plusD x2 x6) with h1 | h1 <;> rcases Int.le_total x5 (plusD x7 x3) with h2 | h2
  · rw [Int.min_eq_left h1, Int.min_eq_left h2]; exact w1
  · rw [Int.min_eq_left h1, Int.min_eq_right h2]; exact w3
  · rw [Int.min_eq_right h1, Int.min_eq_left h2]; exact w2
  · rw [Int.min_eq_right h1, Int.min_eq_right h2]; exact w4
theorem Fwk.step {n k : Nat} {M : Mx} (h : Fwk n k M) (hk : k < n) (hn : n ≤ 24) (hlow : lowM n (relaxK n k M) = false) (hd : ∀ a, a < n → 0 ≤ relaxK n k M a a) : Fwk n (k + 1) (relaxK n k M) := by
  have h0 := h.dg k hk
  have eq : ∀ a b, a < n → b < n → relaxK n k M a b = min (M a b) (plusD (M a k) (M k b)) := fun a b ha hb => relaxK_eq hk h0 ha hb
  have num : ∀ a b, a < n → b < n → M a b = 4398046511104 ∨ (-68719476736 ≤ M a b ∧ M a b ≤ 26843545600) := fun a b ha hb => h.num (by omega) ha hb
  have fin_of : ∀ a b, a < n → b < n → M a b ≠ 4398046511104 → relaxK n k M a b ≠ 4398046511104 := fun a b ha hb hf => by
    rw [eq a b ha hb]
    have := num a b ha hb
    omega
  have fin_via : ∀ a b, a < n → b < n → M a k ≠ 4398046511104 → M k b ≠ 4398046511104 → relaxK n k M a b ≠ 4398046511104 := fun a b ha hb h1 h2 => by
    rw [eq a b ha hb]
    have n1 := num a k ha hk
    have n2 := num k b hk hb
    unfold plusD
    rw [if_neg (by omega)]
    omega
  have row : ∀ b, b < n → relaxK n k M k b = M k b := fun b hb => by
    rw [eq k b hk hb, h0, zero_plusD]; exact Int.min_self _
  have col : ∀ a, a < n → relaxK n k M a k = M a k := fun a ha => by
    rw [eq a k ha hk, h0, plusD_zero]; exact Int.min_self _
  refine ⟨fun a b ha hb => ?_, lowM_no hlow, fun a b ha hb hf => ?_, fun a ha => ?_, fun a b m ha hb hm => ?_⟩
  · rw [eq a b ha hb]; have := h.up a b ha hb; omega
  · -- the bound
    by_cases e : M a b = 4398046511104
    · have hv : M a k ≠ 4398046511104 ∧ M k b ≠ 4398046511104 := by
        rw [eq a b ha hb, e] at hf
        unfold plusD at hf
        split at hf
        · omega
        · rename_i h2; exact ⟨fun e => h2 (.inl e), fun e => h2 (.inr e)⟩
      have b1 := h.bd a k ha hk hv.1
      have b2 := h.bd k b hk hb hv.2
      have hval : relaxK n k M a b = M a k + M k b := by
        rw [eq a b ha hb, e]
        have n1 := num a k ha hk
        have n2 := num k b hk hb
        unfold plusD
        rw [if_neg (by omega)]
        omega
      have hc : cnt (thru M a k) k + cnt (thru M k b) k ≤ cnt (thru (relaxK n k M) a b) k := by
        refine cnt_add (fun m hm hp => ?_) (fun m hm hp => ?_) (fun m hm hp => ?_)
        · simp only [thru, Bool.and_eq_true, finB_iff] at hp ⊢
          exact ⟨fin_of a m ha (by omega) hp.1, fin_via m b (by omega) hb hp.2 hv.2⟩
        · simp only [thru, Bool.and_eq_true, finB_iff] at hp ⊢
          exact ⟨fin_via a m ha (by omega) hv.1 hp.1, fin_of m b (by omega) hb hp.2⟩
        · simp only [thru, Bool.and_eq_true, finB_iff] at hp
          have ht := h.tri a b m ha hb hm
          have n1 := num a m ha (by omega)
          have n2 := num m b (by omega) hb
          unfold plusD at ht
          rw [if_neg (by omega)] at ht
          omega
      have hk1 : thru (relaxK n k M) a b k = true := by
        simp only [thru, Bool.and_eq_true, finB_iff]
        exact ⟨by rw [col a ha]; exact hv.1, by rw [row b hb]; exact hv.2⟩
      have hcs : cnt (thru (relaxK n k M) a b) (k + 1) = cnt (thru (relaxK n k M) a b) k + 1 := by simp only [cnt, hk1, if_true]
      rw [hval, hcs]
      push_cast
      omega
    · have b1 := h.bd a b ha hb e
      have hc : cnt (thru M a b) k ≤ cnt (thru (relaxK n k M) a b) k := cnt_mono fun m hm hp => by
        simp only [thru, Bool.and_eq_true, finB_iff] at hp ⊢
        exact ⟨fin_of a m ha (by omega) hp.1, fin_of m b (by omega) hb hp.2⟩
      have hc2 : cnt (thru (relaxK n k M) a b) k ≤ cnt (thru (relaxK n k M) a b) (k + 1) := by simp only [cnt]; omega
      have hle : relaxK n k M a b ≤ M a b := relaxK_diag a b
      omega
  · have h1 := hd a ha
    have h2 : relaxK n k M a a ≤ M a a := relaxK_diag a a
    rw [h.dg a ha] at h2
    omega
  · by_cases e : m = k
    · subst e
      rw [col a ha, row b hb, eq a b ha hb]
      exact Int.min_le_right _ _
    · have hm' : m < k := by omega
      have hmn : m < n := by omega
      rw [eq a b ha hb, eq a m ha hmn, eq m b hmn hb]
      have t1 := h.tri a b m ha hb hm'
      have t2 := h.tri k b m hk hb hm'
      have t3 := h.tri a k m ha hk hm'
      have t4 := h.tri k k m hk hk hm'
      rw [h0] at t4
      have n1 := num a b ha hb
      have n2 := num a k ha hk
      have n3 := num k b hk hb
      have n4 := num a m ha hmn
      have n5 := num m b hmn hb
      have n6 := num k m hk hmn
      have n7 := num m k hmn hk
      exact tri_step n1 n2 n3 n4 n5 n6 n7 t1 t2 t3 t4

/-! the start -/
theorem addAll_le {l : List Bd} : ∀ (M : Mx) (a b : Nat), l.foldl addB M a b ≤ M a b := by
  induction l with
  | nil => intro M a b; exact Int.le_refl _
  | cons x l ih =>
    intro M a b
    refine Int.le_trans (ih (addB M x) a b) ?_
    unfold addB upd
    split
    · rename_i h; obtain ⟨rfl, rfl⟩ := h; exact Int.min_le_left _ _
    · exact Int.le_refl _
theorem addAll_edge {l : List Bd} : ∀ (M : Mx) (a b : Nat) (w : Int), EdB l a b w → l.foldl addB M a b ≤ w := by
  induction l with
  | nil => rintro M a b w ⟨x, hx, _⟩; simp at hx
  | cons y l ih =>
    rintro M a b w ⟨x, hx, h1, h2, h3⟩
    rcases List.mem_cons.1 hx with rfl | hx
    · refine Int.le_trans (addAll_le (addB M x) a b) ?_
      unfold addB upd
      rw [h1, h2, h3]
      simp only [Int.toNat_natCast, and_self, if_true]
      exact Int.min_le_right _ _
    · exact ih _ a b w ⟨x, hx, h1, h2, h3⟩
/-- an entry is 0 on the diagonal, none, or a bound's -/
theorem addAll_src {l : List Bd} : ∀ (M : Mx) (a b : Nat), l.foldl addB M a b = M a b ∨ ∃ x ∈ l, x.i.toNat = a ∧ x.j.toNat = b ∧ l.foldl addB M a b = x.m := by
  induction l with
  | nil => intro M a b; exact .inl rfl
  | cons y l ih =>
    intro M a b
    rcases ih (addB M y) a b with h | ⟨x, hx, h⟩
    · by_cases e : a = y.i.toNat ∧ b = y.j.toNat
      · obtain ⟨rfl, rfl⟩ := e
        have hv : addB M y y.i.toNat y.j.toNat = min (M y.i.toNat y.j.toNat) y.m := by unfold addB upd; simp
        by_cases hle : M y.i.toNat y.j.toNat ≤ y.m
        · left
          show l.foldl addB (addB M y) _ _ = _
          rw [h, hv, Int.min_eq_left hle]
        · right
          refine ⟨y, by simp, rfl, rfl, ?_⟩
          show l.foldl addB (addB M y) _ _ = _
          rw [h, hv, Int.min_eq_right (by omega)]
      · left
        show l.foldl addB (addB M y) _ _ = _
        rw [h]; unfold addB upd; rw [if_neg e]
    · right
      exact ⟨x, List.mem_cons_of_mem _ hx, h⟩
variable {n : Nat} {l : List Bd}
theorem addAll_fin (hl : ∀ b ∈ l, rightB n b = true) {a b : Nat} : addAll l a b = 4398046511104 ∨ addAll l a b ≤ 1073741824 := by
  unfold addAll
  rcases addAll_src (l := l) initM a b with h | ⟨x, hx, _, _, h⟩
  · rw [h]; unfold initM; split <;> omega
  · have := rightB_iff.1 (hl x hx)
    rw [h]; omega
theorem addAll_sound (hl : ∀ b ∈ l, rightB n b = true) : Sound (EdB l) n (addAll l) := by
  intro a b ha hb hne
  unfold addAll at hne ⊢
  rcases addAll_src (l := l) initM a b with h | ⟨x, hx, h1, h2, h⟩
  · rw [h] at hne ⊢
    exact sound_init _ n a b ha hb hne
  · have := rightB_iff.1 (hl x hx)
    rw [h]
    exact ⟨1, Wk.one ⟨x, hx, by omega, by omega, rfl⟩⟩
theorem fw_split {M M' : Mx} {k : Nat} (h : fw n (k + 1) M = some M') : ∃ M1, fw n k M = some M1 ∧ M' = relaxK n k M1 ∧ lowM n (relaxK n k M1) = false := by
  simp only [fw] at h
  cases e1 : fw n k M with
  | none => rw [e1] at h; cases h
  | some M1 =>
    rw [e1] at h
    simp only [Option.bind_some] at h
    cases e2 : lowM n (relaxK n k M1) with
    | true => rw [e2] at h; cases h
    | false => rw [e2] at h; cases h; exact ⟨M1, rfl, rfl, e2⟩
theorem fw_le {M : Mx} : ∀ (k : Nat) (M' : Mx), fw n k M = some M' → ∀ a b, M' a b ≤ M a b
  | 0, M', h, a, b => by cases h; exact Int.le_refl _
  | k + 1, M', h, a, b => by
    obtain ⟨M1, h1, rfl, _⟩ := fw_split h
    exact Int.le_trans (relaxK_diag a b) (fw_le k M1 h1 a b)
theorem sound_relaxK {E : Nat → Nat → Int → Prop} {M : Mx} (h : Sound E n M) {k : Nat} (hk : k < n) : Sound E n (relaxK n k M) := by
  have h1 : ∀ (i : Nat) (hi : i < n) (j : Nat) (hj : j ≤ n) (M : Mx), Sound E n M → Sound E n (iter (relax1 k i) j M) := by
    intro i hi j
    induction j with
    | zero => intro _ M h; exact h
    | succ j ih => intro hj M h; exact sound_relax1 (ih (by omega) M h) hk hi (by omega)
  have h2 : ∀ (i : Nat) (hi : i ≤ n), Sound E n (iter (relaxR n k) i M) := by
    intro i
    induction i with
    | zero => intro _; exact h
    | succ i ih => intro hi; exact h1 i (by omega) n (Nat.le_refl _) _ (ih (by omega))
  exact h2 n (Nat.le_refl _)
theorem fw_sound {E : Nat → Nat → Int → Prop} {M : Mx} (h : Sound E n M) : ∀ (k : Nat), k ≤ n → ∀ M', fw n k M = some M' → Sound E n M'
  | 0, _, M', e => by cases e; exact h
  | k + 1, hk, M', e => by
    obtain ⟨M1, h1, rfl, _⟩ := fw_split e
    exact sound_relaxK (fw_sound h k (by omega) M1 h1) (by omega)
theorem fw_stage (hl : ∀ b ∈ l, rightB n b = true) (hn : n ≤ 24) : ∀ (k : Nat), k ≤ n → ∀ M, fw n k (addAll l) = some M → (∀ a, a < n → 0 ≤ M a a) → Fwk n k M
  | 0, _, M, e, hd => by
    cases e
    have hin := addAll_in hl
    refine ⟨fun a b ha hb => (hin a b ha hb).2, fun a b ha hb => (hin a b ha hb).1, fun a b ha hb hf => ?_, fun a ha => ?_, fun a b m _ _ hm => absurd hm (Nat.not_lt_zero _)⟩
    · rcases addAll_fin hl (a := a) (b := b) with h | h
      · exact absurd h hf
      · simp only [cnt]; omega
    · have h1 := hd a ha
      have h2 : addAll l a a ≤ initM a a := addAll_le initM a a
      have h3 : initM a a = 0 := by unfold initM; rw [if_pos rfl]
      omega
  | k + 1, hk, M, e, hd => by
    obtain ⟨M1, h1, rfl, h2⟩ := fw_split e
    have hd1 : ∀ a, a < n → 0 ≤ M1 a a := fun a ha => Int.le_trans (hd a ha) (relaxK_diag a a)
    exact (fw_stage hl hn k (by omega) M1 h1 hd1).step (by omega) hn h2 hd

/-- M is the matrix of the distances of E -/
structure Dist (E : Nat → Nat → Int → Prop) (n : Nat) (M : Mx) : Prop where
  le : ∀ a b k W, a < n → Wk E a b k W → M a b ≤ W ∧ M a b ≠ 4398046511104
  hit : ∀ a b, a < n → b < n → M a b ≠ 4398046511104 → ∃ k, Wk E a b k (M a b)
theorem Dist.uniq {E : Nat → Nat → Int → Prop} {M M' : Mx} (h : Dist E n M) (h' : Dist E n M') {a b : Nat} (ha : a < n) (hb : b < n) : M a b = M' a b := by
  by_cases e : M a b = 4398046511104
  · by_cases e' : M' a b = 4398046511104
    · rw [e, e']
    · obtain ⟨k, w⟩ := h'.hit a b ha hb e'
      exact absurd e (h.le a b k _ ha w).2
  · obtain ⟨k, w⟩ := h.hit a b ha hb e
    have h1 := (h'.le a b k _ ha w)
    obtain ⟨k', w'⟩ := h'.hit a b ha hb h1.2
    have h2 := (h.le a b k' _ ha w')
    omega

theorem tight_parts {M : Mx} (hv : bvalid n l = true) (h : tightF n l = some M) : fw n n (addAll l) = some M ∧ ∀ a, a < n → 0 ≤ M a a := by
  unfold tightF at h
  cases e : fw n n (addAll l) with
  | none => rw [e] at h; cases h
  | some M1 =>
    rw [e] at h
    simp only [Option.bind_some] at h
    cases e2 : diagB n M1 with
    | true => rw [e2] at h; cases h
    | false =>
      rw [e2] at h; cases h
      refine ⟨rfl, fun a ha => ?_⟩
      unfold diagB at e2
      rw [List.any_eq_false] at e2
      have := e2 a (List.mem_range.2 ha)
      simpa using this
theorem tight_stage {M : Mx} (hv : bvalid n l = true) (h : tightF n l = some M) : Fwk n n M := by
  obtain ⟨_, h2, _, h4⟩ := bvalid_iff.1 hv
  obtain ⟨p1, p2⟩ := tight_parts hv h
  exact fw_stage h4 (by omega) n (Nat.le_refl _) M p1 p2
theorem tight_closed {M : Mx} (hv : bvalid n l = true) (h : tightF n l = some M) : ClosedM n M := by
  have hs := tight_stage hv h
  obtain ⟨_, h2, _, h4⟩ := bvalid_iff.1 hv
  refine ⟨hs.dg, fun i j hi hj => ?_, fun i j k hi hj hk => hs.tri i k j hi hk hj⟩
  rcases hs.num (by omega) hi hj with h | h
  · exact .inl h
  · exact .inr ⟨h.1, by omega⟩
theorem tight_dist {M : Mx} (hv : bvalid n l = true) (h : tightF n l = some M) : Dist (EdB l) n M := by
  have hs := tight_stage hv h
  obtain ⟨_, h2, _, h4⟩ := bvalid_iff.1 hv
  obtain ⟨p1, p2⟩ := tight_parts hv h
  refine ⟨fun a b k W ha w => ?_, fun a b ha hb hf => fw_sound (addAll_sound h4) n (Nat.le_refl _) M p1 a b ha hb hf⟩
  induction w with
  | nil a => rw [hs.dg a ha]; omega
  | @cons a b c k w W he hw ih =>
    have hab := EdB.lt h4 he
    have h1 : M a b ≤ w := Int.le_trans (fw_le n M p1 a b) (addAll_edge initM a b w he)
    have h3 := EdB.size h4 he
    have h5 := ih hab.2
    have hc : c < n := by
      cases hw with
      | nil _ => exact hab.2
      | cons h6 h7 =>
        have hh : ∀ {a b k W}, Wk (EdB l) a b k W → a < n → b < n := by
          intro a b k W hw
          induction hw with
          | nil _ => exact id
          | cons he _ ih => exact fun _ => ih (EdB.lt h4 he).2
        exact hh h7 (EdB.lt h4 h6).2
    have ht := hs.tri a c b ha hc hab.2
    have n1 := hs.num (by omega) ha hab.2
    have n2 := hs.num (by omega) hab.2 hc
    unfold plusD at ht
    rw [if_neg (by omega)] at ht
    omega
/-- there is no answer exactly if a closed walk is below 0 -/
theorem tight_some_iff (hv : bvalid n l = true) : (∃ M, tightF n l = some M) ↔ NoNeg (EdB l) := by
  obtain ⟨h1, h2, h3, h4⟩ := bvalid_iff.1 hv
  constructor
  · rintro ⟨M, h⟩ a k W w
    by_cases ha : a < n
    · have := (tight_dist hv h).le a a k W ha w
      rw [(tight_stage hv h).dg a ha] at this
      exact this.1
    · cases w with
      | nil _ => exact Int.le_refl _
      | cons he _ => exact absurd (EdB.lt h4 he).1 ha
  · intro hn
    have hwk : ∀ a b k W, a < n → Wk (EdB l) a b k W → -24696061952 ≤ W := fun a b k W ha w => by
      obtain ⟨k', W', hk', hW, w'⟩ := Wk.short (fun a b w he => EdB.lt h4 he) hn ha k W w
      have := (Wk.bound (B := 1073741824) (by omega) (fun a b w he => EdB.size h4 he) w').1
      have hk2 : (k' : Int) ≤ 23 := by omega
      omega
    have hst : ∀ k, k ≤ n → ∃ M, fw n k (addAll l) = some M := by
      intro k
      induction k with
      | zero => intro _; exact ⟨_, rfl⟩
      | succ k ih =>
        intro hk
        obtain ⟨M1, e1⟩ := ih (by omega)
        have hs := sound_relaxK (fw_sound (addAll_sound h4) k (by omega) M1 e1) (k := k) (by omega)
        refine ⟨relaxK n k M1, ?_⟩
        simp only [fw, e1, Option.bind_some]
        cases hlow : lowM n (relaxK n k M1) with
        | false => rfl
        | true =>
          obtain ⟨a, b, ha, hb, hlt⟩ := lowM_yes hlow
          obtain ⟨k', w⟩ := hs a b ha hb (by omega)
          have := hwk a b k' _ ha w
          omega
    obtain ⟨M, e⟩ := hst n (Nat.le_refl _)
    refine ⟨M, ?_⟩
    unfold tightF
    rw [e]
    simp only [Option.bind_some]
    have hd : diagB n M = false := by
      unfold diagB
      rw [List.any_eq_false]
      intro a ha
      have ha := List.mem_range.1 ha
      have hs := fw_sound (addAll_sound h4) n (Nat.le_refl _) M e
      by_cases hf : M a a = 4398046511104
      · rw [hf]; decide
      · obtain ⟨k, w⟩ := hs a a ha ha hf
        have := hn a k _ w
        simp; omega
    rw [hd]; rfl
end Go.Proofs.YthilkphnjffnhaaGreat
