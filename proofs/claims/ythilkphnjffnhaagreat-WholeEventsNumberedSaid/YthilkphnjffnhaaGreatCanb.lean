/- Canonical lists of spans: what they contain; there is one for each set; runs.Of and runs.combine give them. -/
import Derived.Test.YthilkphnjffnhaaGreatCmbc
set_option linter.unusedSimpArgs false
set_option linter.unusedVariables false
namespace Go.Proofs.YthilkphnjffnhaaGreat

def inS (s : Sp) (x : Int) : Prop := s.a ≤ x ∧ x < s.b
def memS (l : List Sp) (x : Int) : Prop := ∃ s ∈ l, inS s x
theorem memS_nil (x : Int) : ¬ memS [] x := by rintro ⟨s, h, _⟩; simp at h
theorem memS_cons {s : Sp} {l : List Sp} {x : Int} : memS (s :: l) x ↔ inS s x ∨ memS l x := by simp [memS]
theorem memS_append {l m : List Sp} {x : Int} : memS (l ++ m) x ↔ memS l x ∨ memS m x := by
  simp only [memS, List.mem_append]
  constructor
  · rintro ⟨s, h | h, hx⟩
    · exact .inl ⟨s, h, hx⟩
    · exact .inr ⟨s, h, hx⟩
  · rintro (⟨s, h, hx⟩ | ⟨s, h, hx⟩)
    · exact ⟨s, .inl h, hx⟩
    · exact ⟨s, .inr h, hx⟩
theorem memS_one {s : Sp} {x : Int} : memS [s] x ↔ inS s x := by simp [memS]
/-- canonical, whatever its length -/
structure Cnn (l : List Sp) : Prop where
  ne : ∀ s ∈ l, s.a < s.b
  gap : l.Pairwise fun s t => s.b < t.a
theorem Cnn.nil : Cnn [] := ⟨by simp, List.Pairwise.nil⟩
theorem Cnn.tail {s : Sp} {l : List Sp} (h : Cnn (s :: l)) : Cnn l := ⟨fun t ht => h.ne t (by simp [ht]), (List.pairwise_cons.1 h.gap).2⟩
theorem Cnn.after {s : Sp} {l : List Sp} (h : Cnn (s :: l)) {x : Int} (hx : memS l x) : s.b < x := by
  obtain ⟨t, ht, h1, _⟩ := hx
  have := (List.pairwise_cons.1 h.gap).1 t ht
  omega
theorem Cnn.snoc {l : List Sp} {s : Sp} (h : Cnn l) (hs : s.a < s.b) (hl : ∀ t ∈ l, t.b < s.a) : Cnn (l ++ [s]) :=
  ⟨fun t ht => by
    rcases List.mem_append.1 ht with ht | ht
    · exact h.ne t ht
    · simp at ht; subst ht; exact hs,
   List.pairwise_append.2 ⟨h.gap, by simp, fun t ht u hu => by simp at hu; subst hu; exact hl t ht⟩⟩
/-- one canonical list for each set -/
theorem Cnn.uniq : ∀ {l m : List Sp}, Cnn l → Cnn m → (∀ x, memS l x ↔ memS m x) → l = m
  | [], [], _, _, _ => rfl
  | [], t :: m, _, hm, h => by
    have : memS (t :: m) t.a := memS_cons.2 (.inl ⟨Int.le_refl _, hm.ne t (by simp)⟩)
    exact absurd ((h t.a).2 this) (memS_nil _)
  | s :: l, [], hl, _, h => by
    have : memS (s :: l) s.a := memS_cons.2 (.inl ⟨Int.le_refl _, hl.ne s (by simp)⟩)
    exact absurd ((h s.a).1 this) (memS_nil _)
  | s :: l, t :: m, hl, hm, h => by
    have hs := hl.ne s (by simp)
    have ht := hm.ne t (by simp)
    have ha : s.a = t.a := by
      have h1 := (h s.a).1 (memS_cons.2 (.inl ⟨Int.le_refl _, hs⟩))
      have h2 := (h t.a).2 (memS_cons.2 (.inl ⟨Int.le_refl _, ht⟩))
      have g1 : t.a ≤ s.a := by
        rcases memS_cons.1 h1 with h3 | h3
        · exact h3.1
        · have := hm.after h3; omega
      have g2 : s.a ≤ t.a := by
        rcases memS_cons.1 h2 with h3 | h3
        · exact h3.1
        · have := hl.after h3; omega
      omega
    have hb : s.b = t.b := by
      by_cases g1 : s.b < t.b
      · have h1 := (h s.b).2 (memS_cons.2 (.inl ⟨by omega, g1⟩))
        rcases memS_cons.1 h1 with h3 | h3
        · have := h3.2; omega
        · have := hl.after h3; omega
      · by_cases g2 : t.b < s.b
        · have h1 := (h t.b).1 (memS_cons.2 (.inl ⟨by omega, g2⟩))
          rcases memS_cons.1 h1 with h3 | h3
          · have := h3.2; omega
          · have := hm.after h3; omega
        · omega
    have hst : s = t := by obtain ⟨a, b⟩ := s; obtain ⟨c, d⟩ := t; simp only at ha hb; rw [ha, hb]
    subst hst
    have htl : l = m := hl.tail.uniq hm.tail fun x => by
      constructor
      · intro hx
        have hgt := hl.after hx
        rcases memS_cons.1 ((h x).1 (memS_cons.2 (.inr hx))) with h3 | h3
        · have := h3.2; omega
        · exact h3
      · intro hx
        have hgt := hm.after hx
        rcases memS_cons.1 ((h x).2 (memS_cons.2 (.inr hx))) with h3 | h3
        · have := h3.2; omega
        · exact h3
    rw [htl]
theorem canonS_cnn {l : List Sp} (h : CanonS l) : Cnn l := by
  obtain ⟨_, h2, h3⟩ := h
  have hv : ∀ s ∈ l, s.a < s.b := fun s hs => (validB_iff.1 (h2 s hs)).2.2
  refine ⟨hv, ?_⟩
  rw [List.pairwise_iff_getElem]
  intro i j hi hj hij
  have key : ∀ d, ∀ (h : i + 1 + d < l.length), l[i].b < (l[i + 1 + d]).a := by
    intro d
    induction d with
    | zero =>
      intro h
      have := h3 i h
      rwa [getD_at (by omega), getD_at h] at this
    | succ d ih =>
      intro h
      have a1 := ih (by omega)
      have a2 := h3 (i + 1 + d) (by omega)
      rw [getD_at (by omega), getD_at (by omega)] at a2
      have a3 := hv l[i + 1 + d] (List.getElem_mem _)
      have : (l[i + 1 + (d + 1)]).a = (l[i + 1 + d + 1]).a := rfl
      omega
  have := key (j - (i + 1)) (by omega)
  simpa [show i + 1 + (j - (i + 1)) = j by omega] using this
theorem cnn_canonS {l : List Sp} (h : Cnn l) (hn : l.length ≤ 2000) (hb : ∀ s ∈ l, -4398046511104 ≤ s.a ∧ s.b ≤ 4398046511104) : CanonS l := by
  refine ⟨hn, fun s hs => validB_iff.2 ?_, fun i hi => ?_⟩
  · have := h.ne s hs; have := hb s hs; omega
  · have := List.pairwise_iff_getElem.1 h.gap i (i + 1) (by omega) hi (by omega)
    rwa [getD_at (by omega), getD_at hi]

/-! runs.Of -/
/-- what is kept as sorted spans are merged -/
theorem merge_inv : ∀ (ss out : List Sp), Cnn out → ss.Pairwise (fun x y => x.a ≤ y.a) → (∀ s ∈ ss, s.a < s.b) → (∀ t ∈ out, ∀ s ∈ ss, t.a ≤ s.a) →
    Cnn (ss.foldl mergeStep out) ∧ ∀ x, memS (ss.foldl mergeStep out) x ↔ memS out x ∨ memS ss x
  | [], out, h, _, _, _ => ⟨h, fun x => ⟨.inl, fun h => h.resolve_right (memS_nil x)⟩⟩
  | s :: ss, out, h, hp, hv, hle => by
    have hp2 := List.pairwise_cons.1 hp
    have hsv := hv s (by simp)
    have key : Cnn (mergeStep out s) ∧ (∀ x, memS (mergeStep out s) x ↔ memS out x ∨ inS s x) ∧ ∀ t ∈ mergeStep out s, t.a ≤ s.a := by
      rcases List.eq_nil_or_concat out with rfl | ⟨pre, t, rfl⟩
      · refine ⟨⟨by simp [mergeStep]; exact hsv, by simp [mergeStep]⟩, fun x => ?_, by simp [mergeStep]⟩
        show memS [s] x ↔ _
        rw [memS_one]
        exact ⟨.inr, fun h => h.resolve_left (memS_nil x)⟩
      · rw [List.concat_eq_append] at *
        have hta := hle t (by simp) s (by simp)
        have htb := h.ne t (by simp)
        have hpw := List.pairwise_append.1 h.gap
        have hpre : ∀ u ∈ pre, u.b < t.a := fun u hu => hpw.2.2 u hu t (by simp)
        have hcp : Cnn pre := ⟨fun u hu => h.ne u (by simp [hu]), hpw.1⟩
        by_cases e : s.a ≤ t.b
        · rw [mergeStep_last e]
          refine ⟨hcp.snoc (by simp only; omega) hpre, fun x => ?_, fun u hu => ?_⟩
          · rw [memS_append, memS_append, memS_one, memS_one]
            have : inS ⟨t.a, max t.b s.b⟩ x ↔ inS t x ∨ inS s x := by simp only [inS]; omega
            rw [this, or_assoc]
          · rcases List.mem_append.1 hu with hu | hu
            · have := hpre u hu; have := hcp.ne u hu; omega
            · simp at hu; subst hu; exact hta
        · rw [mergeStep_new e]
          refine ⟨h.snoc hsv (fun u hu => ?_), fun x => by rw [memS_append (m := [s]), memS_one], fun u hu => ?_⟩
          · rcases List.mem_append.1 hu with hu | hu
            · have := hpre u hu; omega
            · simp at hu; subst hu; omega
          · rcases List.mem_append.1 hu with hu | hu
            · exact hle u hu s (by simp)
            · simp at hu; subst hu; exact Int.le_refl _
    obtain ⟨k1, k2, k3⟩ := key
    have ih := merge_inv ss (mergeStep out s) k1 hp2.2 (fun u hu => hv u (by simp [hu])) (fun t ht u hu => Int.le_trans (k3 t ht) (hp2.1 u hu))
    refine ⟨ih.1, fun x => ?_⟩
    show memS (ss.foldl mergeStep (mergeStep out s)) x ↔ _
    rw [ih.2 x, k2 x, memS_cons, or_assoc]
theorem mergeL_inv {ss : List Sp} (h : ss.Pairwise (fun x y => x.a ≤ y.a)) (hv : ∀ s ∈ ss, s.a < s.b) : Cnn (mergeL ss) ∧ ∀ x, memS (mergeL ss) x ↔ memS ss x := by
  have := merge_inv ss [] Cnn.nil h hv (by simp)
  refine ⟨this.1, fun x => ?_⟩
  show memS (ss.foldl mergeStep []) x ↔ _
  rw [this.2 x]
  exact ⟨fun h => h.resolve_left (memS_nil x), .inr⟩
theorem memS_perm {l m : List Sp} (h : l.Perm m) (x : Int) : memS l x ↔ memS m x := by
  simp only [memS, h.mem_iff]
/-- l, sorted by insertion -/
def insS (s : Sp) : List Sp → List Sp
  | [] => [s]
  | t :: l => if s.a ≤ t.a then s :: t :: l else t :: insS s l
def isortS : List Sp → List Sp
  | [] => []
  | s :: l => insS s (isortS l)
theorem insS_perm (s : Sp) : ∀ l, (insS s l).Perm (s :: l)
  | [] => List.Perm.refl _
  | t :: l => by
    unfold insS
    split
    · exact List.Perm.refl _
    · exact ((insS_perm s l).cons t).trans (List.Perm.swap s t l)
theorem insS_sorted (s : Sp) : ∀ l : List Sp, l.Pairwise (fun x y => x.a ≤ y.a) → (insS s l).Pairwise (fun x y => x.a ≤ y.a)
  | [], _ => by simp [insS]
  | t :: l, h => by
    have h2 := List.pairwise_cons.1 h
    unfold insS
    split
    · rename_i hle
      exact List.pairwise_cons.2 ⟨fun u hu => by
        rcases List.mem_cons.1 hu with rfl | hu
        · exact hle
        · exact Int.le_trans hle (h2.1 u hu), h⟩
    · rename_i hle
      refine List.pairwise_cons.2 ⟨fun u hu => ?_, insS_sorted s l h2.2⟩
      rcases List.mem_cons.1 ((insS_perm s l).mem_iff.1 hu) with rfl | hu
      · omega
      · exact h2.1 u hu
theorem isortS_perm : ∀ l, (isortS l).Perm l
  | [] => List.Perm.refl _
  | s :: l => (insS_perm s _).trans ((isortS_perm l).cons s)
theorem isortS_sorted : ∀ l, (isortS l).Pairwise (fun x y => x.a ≤ y.a)
  | [] => List.Pairwise.nil
  | s :: l => insS_sorted s _ (isortS_sorted l)
/-- the canonical list of a union -/
def ofF (l : List Sp) : List Sp := mergeL (isortS l)
theorem ofF_cnn {l : List Sp} (hv : ∀ s ∈ l, s.a < s.b) : Cnn (ofF l) ∧ ∀ x, memS (ofF l) x ↔ memS l x := by
  have h := mergeL_inv (isortS_sorted l) (fun s hs => hv s ((isortS_perm l).mem_iff.1 hs))
  exact ⟨h.1, fun x => (h.2 x).trans (memS_perm (isortS_perm l) x)⟩
theorem mergeL_ofF {ss l : List Sp} (h : SortedOf ss l) (hv : ∀ s ∈ l, s.a < s.b) : mergeL ss = ofF l := by
  have h1 := mergeL_inv h.2 (fun s hs => hv s (h.1.mem_iff.1 hs))
  have h2 := ofF_cnn hv
  exact h1.1.uniq h2.1 fun x => (h1.2 x).trans ((memS_perm h.1 x).trans (h2.2 x).symm)
end Go.Proofs.YthilkphnjffnhaaGreat

/- What runs.combine makes is canonical and contains what the rule says. -/
namespace Go.Proofs.YthilkphnjffnhaaGreat

theorem endF_even {l : List Sp} {q : Nat} (h : q < l.length) : endF l (2 * q) = l[q].a := by
  unfold endF
  rw [if_neg (by omega), if_pos (by omega), show 2 * q / 2 = q by omega, getD_at h]
theorem endF_odd {l : List Sp} {q : Nat} (h : q < l.length) : endF l (2 * q + 1) = l[q].b := by
  unfold endF
  rw [if_neg (by omega), if_neg (by omega), show (2 * q + 1) / 2 = q by omega, getD_at h]
theorem endF_succ {l : List Sp} (h : CanonS l) {i : Nat} (hi : i < 2 * l.length) : endF l i < endF l (i + 1) := by
  rcases Nat.mod_two_eq_zero_or_one i with e | e
  · obtain ⟨q, rfl⟩ : ∃ q, i = 2 * q := ⟨i / 2, by omega⟩
    have hq : q < l.length := by omega
    rw [endF_even hq, endF_odd hq]
    exact (validB_iff.1 (h.2.1 _ (List.getElem_mem hq))).2.2
  · obtain ⟨q, rfl⟩ : ∃ q, i = 2 * q + 1 := ⟨i / 2, by omega⟩
    have hq : q < l.length := by omega
    by_cases hq2 : q + 1 < l.length
    · have := h.2.2 q hq2
      rw [getD_at hq, getD_at hq2] at this
      rw [endF_odd hq, show 2 * q + 1 + 1 = 2 * (q + 1) by omega, endF_even hq2]
      exact this
    · have e2 : 2 * q + 1 + 1 = 2 * l.length := by omega
      rw [e2, endF_end]
      have := endF_le h.2.1 (n := 2 * q + 1) (by omega)
      omega
theorem endF_lt {l : List Sp} (h : CanonS l) {i j : Nat} (hij : i < j) (hj : j ≤ 2 * l.length) : endF l i < endF l j := by
  obtain ⟨d, rfl⟩ : ∃ d, j = i + 1 + d := ⟨j - (i + 1), by omega⟩
  clear hij
  induction d with
  | zero => exact endF_succ h (by omega)
  | succ d ih => exact Int.lt_trans (ih (by omega)) (endF_succ h (i := i + 1 + d) (by omega))
theorem memS_end {l : List Sp} {x : Int} : memS l x ↔ ∃ q, q < l.length ∧ endF l (2 * q) ≤ x ∧ x < endF l (2 * q + 1) := by
  constructor
  · rintro ⟨s, hs, h1, h2⟩
    obtain ⟨q, hq, rfl⟩ := List.getElem_of_mem hs
    exact ⟨q, hq, by rw [endF_even hq]; exact h1, by rw [endF_odd hq]; exact h2⟩
  · rintro ⟨q, hq, h1, h2⟩
    rw [endF_even hq] at h1
    rw [endF_odd hq] at h2
    exact ⟨l[q], List.getElem_mem hq, h1, h2⟩
theorem oddI_iff {i : Nat} : oddI i = true ↔ i % 2 = 1 := by
  unfold oddI
  rw [beq_iff_eq]
  omega
/-- between two ends, one behind the other -/
theorem memS_odd {l : List Sp} (h : CanonS l) {i : Nat} (hi : i ≤ 2 * l.length) {x : Int} (h1 : ∀ j, j < i → endF l j ≤ x) (h2 : x < endF l i) : memS l x ↔ oddI i = true := by
  rw [memS_end, oddI_iff]
  constructor
  · rintro ⟨q, hq, g1, g2⟩
    -- 2q < i, 2q+1 ≥ i
    have a1 : 2 * q < i := by
      by_cases e : 2 * q < i
      · exact e
      · exfalso
        rcases Nat.lt_or_eq_of_le (show i ≤ 2 * q by omega) with e2 | e2
        · have := endF_lt h e2 (by omega); omega
        · subst e2; omega
    have a2 : i ≤ 2 * q + 1 := by
      by_cases e : i ≤ 2 * q + 1
      · exact e
      · have := h1 (2 * q + 1) (by omega); omega
    omega
  · intro e
    refine ⟨i / 2, by omega, h1 _ (by omega), ?_⟩
    rw [show 2 * (i / 2) + 1 = i by omega]; exact h2

section
variable {rule : Bool → Bool → Bool} {a b : List Sp}
/-- what the loop keeps: all ahead of p is done -/
structure CsIn (rule : Bool → Bool → Bool) (a b : List Sp) (s : Cs) : Prop where
  i : s.i ≤ 2 * a.length
  k : s.k ≤ 2 * b.length
  behind : ∃ p, (∀ j, j < s.i → endF a j ≤ p) ∧ (∀ j, j < s.k → endF b j ≤ p) ∧ p < endF a s.i ∧ p < endF b s.k ∧ (s.ins = true → s.fr ≤ p) ∧ (s.ins = false → ∀ t ∈ s.out, t.b ≤ p)
  ins : s.ins = rule (oddI s.i) (oddI s.k)
  cn : Cnn s.out
  gap : s.ins = true → ∀ t ∈ s.out, t.b < s.fr
  mem : ∀ x, x < min (endF a s.i) (endF b s.k) → ∀ u v : Bool, (u = true ↔ memS a x) → (v = true ↔ memS b x) → ((memS s.out x ∨ (s.ins = true ∧ s.fr ≤ x)) ↔ rule u v = true)
theorem CsIn.start (hr : rule false false = false) (ha : CanonS a) (hb : CanonS b) : CsIn rule a b ⟨0, 0, false, 0, []⟩ where
  i := by simp
  k := by simp
  behind := ⟨min (endF a 0) (endF b 0) - 1, fun j hj => absurd hj (Nat.not_lt_zero _), fun j hj => absurd hj (Nat.not_lt_zero _), by simp only; omega, by simp only; omega, by simp, by simp⟩
  ins := by show false = rule (oddI 0) (oddI 0); exact hr.symm
  cn := Cnn.nil
  gap := by simp
  mem := by
    intro x hx u v hu hv
    have hx : x < min (endF a 0) (endF b 0) := hx
    have na : ∀ {l : List Sp}, x < endF l 0 → CanonS l → ¬ memS l x := fun h1 h2 h3 => by
      have := (memS_odd h2 (Nat.zero_le _) (fun j hj => absurd hj (Nat.not_lt_zero _)) h1).1 h3
      exact absurd this (by decide)
    have hu' : u = false := by
      cases u
      · rfl
      · exact absurd (hu.1 rfl) (na (by omega) ha)
    have hv' : v = false := by
      cases v
      · rfl
      · exact absurd (hv.1 rfl) (na (by omega) hb)
    rw [hu', hv', hr]
    simp [memS_nil]
theorem CsIn.step {s : Cs} (h : CsIn rule a b s) (ha : CanonS a) (hb : CanonS b) (hi : ci a b s ≤ 2 * a.length) (hk : ck a b s ≤ 2 * b.length) : CsIn rule a b (cstep rule a b s) := by
  obtain ⟨p, p1, p2, p3, p4, p5, p6⟩ := h.behind
  obtain ⟨at_, hat⟩ : ∃ x, x = cat a b s := ⟨_, rfl⟩
  have hat' : at_ = min (endF a s.i) (endF b s.k) := hat
  have q0 : p < at_ := by omega
  have q1 : ∀ j, j < ci a b s → endF a j ≤ at_ := fun j hj => by
    unfold ci at hj
    split at hj
    · rename_i hle
      by_cases e : j = s.i
      · subst e; omega
      · have := p1 j (by omega); omega
    · have := p1 j hj; omega
  have q2 : ∀ j, j < ck a b s → endF b j ≤ at_ := fun j hj => by
    unfold ck at hj
    split at hj
    · rename_i hle
      by_cases e : j = s.k
      · subst e; omega
      · have := p2 j (by omega); omega
    · have := p2 j hj; omega
  have q3 : at_ < endF a (ci a b s) := by
    unfold ci at hi ⊢
    split
    · rename_i hle
      rw [if_pos hle] at hi
      have := endF_lt ha (show s.i < s.i + 1 by omega) hi
      omega
    · omega
  have q4 : at_ < endF b (ck a b s) := by
    unfold ck at hk ⊢
    split
    · rename_i hle
      rw [if_pos hle] at hk
      have := endF_lt hb (show s.k < s.k + 1 by omega) hk
      omega
    · omega
  obtain ⟨now, hnow⟩ : ∃ x, x = rule (oddI (ci a b s)) (oddI (ck a b s)) := ⟨_, rfl⟩
  have hst : cstep rule a b s = cnext s (ci a b s) (ck a b s) at_ now := by unfold cstep; rw [← hat, ← hnow]
  rw [hst]
  generalize ci a b s = i' at *
  generalize ck a b s = k' at *
  have hout : ∀ t ∈ s.out, t.b ≤ p := fun t ht => by
    cases e : s.ins
    · exact p6 e t ht
    · have := h.gap e t ht; have := p5 e; omega
  -- beyond at_
  have far : ∀ (out' : List Sp) (fr' : Int) (x : Int), at_ ≤ x → x < min (endF a i') (endF b k') → (∀ t ∈ out', t.b ≤ at_) → (now = true → fr' ≤ at_) → ∀ u v : Bool, (u = true ↔ memS a x) → (v = true ↔ memS b x) → ((memS out' x ∨ (now = true ∧ fr' ≤ x)) ↔ rule u v = true) := by
    intro out' fr' x hx1 hx2 ho hf u v hu hv
    have m1 := memS_odd ha hi (x := x) (fun j hj => Int.le_trans (q1 j hj) hx1) (by omega)
    have m2 := memS_odd hb hk (x := x) (fun j hj => Int.le_trans (q2 j hj) hx1) (by omega)
    have eu : u = oddI i' := by
      exact Bool.eq_iff_iff.2 (hu.trans m1)
    have ev : v = oddI k' := by
      exact Bool.eq_iff_iff.2 (hv.trans m2)
    rw [eu, ev, ← hnow]
    constructor
    · rintro (⟨t, ht, _, h2⟩ | h1)
      · have := ho t ht; omega
      · exact h1.1
    · intro h1
      exact .inr ⟨h1, Int.le_trans (hf h1) hx1⟩
  by_cases e : now = s.ins
  · have hc : cnext s i' k' at_ now = ⟨i', k', s.ins, s.fr, s.out⟩ := by unfold cnext; rw [if_pos e]
    rw [hc]
    refine ⟨hi, hk, ⟨at_, q1, q2, q3, q4, fun g => by have := p5 g; show s.fr ≤ at_; omega, fun _ t ht => by have := hout t ht; omega⟩, by rw [← e]; exact hnow, h.cn, h.gap, fun x hx u v hu hv => ?_⟩
    by_cases hx1 : x < at_
    · exact h.mem x (by omega) u v hu hv
    · have := far s.out s.fr x (by omega) hx (fun t ht => by have := hout t ht; omega) (fun g => by rw [e] at g; have := p5 g; omega) u v hu hv
      rw [e] at this
      exact this
  · cases hins : s.ins
    · have hn : now = true := by cases now <;> simp_all
      have hc : cnext s i' k' at_ now = ⟨i', k', true, at_, s.out⟩ := by unfold cnext; rw [if_neg e, hins, hn]; simp
      rw [hc]
      refine ⟨hi, hk, ⟨at_, q1, q2, q3, q4, fun _ => Int.le_refl _, fun g => by simp at g⟩, by rw [← hn]; exact hnow, h.cn, fun _ t ht => by have := hout t ht; simp only; omega, fun x hx u v hu hv => ?_⟩
      by_cases hx1 : x < at_
      · have := h.mem x (by omega) u v hu hv
        rw [hins] at this
        rw [← this]
        simp only [true_and, Bool.false_eq_true, false_and, or_false]
        constructor
        · rintro (h1 | h1)
          · exact h1
          · omega
        · exact .inl
      · have := far s.out at_ x (by omega) hx (fun t ht => by have := hout t ht; omega) (fun _ => Int.le_refl _) u v hu hv
        rw [hn] at this
        exact this
    · have hn : now = false := by cases now <;> simp_all
      have hfr := p5 hins
      have hgap := h.gap hins
      have hc : cnext s i' k' at_ now = ⟨i', k', false, at_, s.out ++ [⟨s.fr, at_⟩]⟩ := by unfold cnext; rw [if_neg e, hins, hn]; simp
      rw [hc]
      have hb2 : ∀ t ∈ s.out ++ [⟨s.fr, at_⟩], t.b ≤ at_ := fun t ht => by
        rcases List.mem_append.1 ht with ht | ht
        · have := hout t ht; omega
        · simp at ht; subst ht; exact Int.le_refl _
      refine ⟨hi, hk, ⟨at_, q1, q2, q3, q4, fun g => by simp at g, fun _ t ht => hb2 t ht⟩, by rw [← hn]; exact hnow, h.cn.snoc (by simp only; omega) hgap, fun g => by simp at g, fun x hx u v hu hv => ?_⟩
      by_cases hx1 : x < at_
      · have := h.mem x (by omega) u v hu hv
        rw [hins] at this
        rw [← this]
        rw [memS_append, memS_one]
        simp only [inS, true_and, Bool.false_eq_true, false_and, or_false]
        constructor
        · rintro (h1 | h1)
          · exact .inl h1
          · exact .inr h1.1
        · rintro (h1 | h1)
          · exact .inl h1
          · exact .inr ⟨h1, hx1⟩
      · have := far (s.out ++ [⟨s.fr, at_⟩]) at_ x (by omega) hx hb2 (fun _ => Int.le_refl _) u v hu hv
        rw [hn] at this
        exact this
theorem iterC_in {hr : rule false false = false} (ha : CanonS a) (hb : CanonS b) : ∀ (f : Nat) (s : Cs), CsOk rule a b s → CsIn rule a b s → 2 * a.length + 2 * b.length ≤ f + (s.i + s.k) →
    ∃ s', CsIn rule a b s' ∧ s'.i = 2 * a.length ∧ s'.k = 2 * b.length ∧ iterC rule a b f s = s'
  | 0, s, ho, hin, hf => ⟨s, hin, by have := ho.i; have := ho.k; omega, by have := ho.i; have := ho.k; omega, rfl⟩
  | f + 1, s, ho, hin, hf => by
    by_cases hlt : s.i < 2 * a.length ∨ s.k < 2 * b.length
    · have hs := ho.step ha.2.1 hb.2.1 hlt
      have e1 : (cstep rule a b s).i = ci a b s := cnext_i _ _ _ _ _
      have e2 : (cstep rule a b s).k = ck a b s := cnext_k _ _ _ _ _
      have hin' := hin.step ha hb (by rw [← e1]; exact hs.1.i) (by rw [← e2]; exact hs.1.k)
      obtain ⟨s', g1, g2, g3, g4⟩ := iterC_in (hr := hr) ha hb f _ hs.1 hin' (by have := hs.2; omega)
      exact ⟨s', g1, g2, g3, by rw [iterC, if_pos hlt]; exact g4⟩
    · exact ⟨s, hin, by have := ho.i; omega, by have := ho.k; omega, by rw [iterC, if_neg hlt]⟩
/-- what combine makes -/
theorem combF_spec (hr : rule false false = false) (ha : CanonS a) (hb : CanonS b) : Cnn (combF rule a b) ∧ ∀ x, ∀ u v : Bool, (u = true ↔ memS a x) → (v = true ↔ memS b x) → (memS (combF rule a b) x ↔ rule u v = true) := by
  obtain ⟨s', g1, g2, g3, g4⟩ := iterC_in (hr := hr) ha hb (2 * a.length + 2 * b.length) _ (CsOk.start rule a b) (CsIn.start hr ha hb) (by simp)
  have e : combF rule a b = s'.out := by unfold combF; rw [g4]
  have o1 : oddI (2 * a.length) = false := by
    cases e : oddI (2 * a.length)
    · rfl
    · have := oddI_iff.1 e; omega
  have o2 : oddI (2 * b.length) = false := by
    cases e : oddI (2 * b.length)
    · rfl
    · have := oddI_iff.1 e; omega
  have hins : s'.ins = false := by rw [g1.ins, g2, g3, o1, o2, hr]
  rw [e]
  refine ⟨g1.cn, fun x u v hu hv => ?_⟩
  have hend : ∀ {l : List Sp}, CanonS l → ∀ x, 4398046511104 ≤ x → ¬ memS l x := fun hl x hx hm => by
    obtain ⟨s, hs, _, h2⟩ := hm
    have := validB_iff.1 (hl.2.1 s hs)
    omega
  by_cases hx : x < 8796093022208
  · have := g1.mem x (by rw [g2, g3, endF_end, endF_end]; omega) u v hu hv
    rw [hins] at this
    simpa using this
  · have hu' : u = false := by
      cases u
      · rfl
      · exact absurd (hu.1 rfl) (hend ha x (by omega))
    have hv' : v = false := by
      cases v
      · rfl
      · exact absurd (hv.1 rfl) (hend hb x (by omega))
    rw [hu', hv', hr]
    obtain ⟨p, _, _, p3, _, _, p6⟩ := g1.behind
    rw [g2, endF_end] at p3
    constructor
    · rintro ⟨t, ht, _, h2⟩
      have := p6 hins t ht
      omega
    · intro h; cases h
end
end Go.Proofs.YthilkphnjffnhaaGreat
