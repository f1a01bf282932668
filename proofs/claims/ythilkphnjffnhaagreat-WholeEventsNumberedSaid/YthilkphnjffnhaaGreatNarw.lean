/- Narrowing, said of lists: spans clipped; the rounds; why they end. -/
import Derived.Test.YthilkphnjffnhaaGreatCanb
import Derived.Test.YthilkphnjffnhaaGreatHul
import Derived.Test.YthilkphnjffnhaaGreatEql
import Derived.Test.YthilkphnjffnhaaGreatDst
set_option linter.unusedSimpArgs false
set_option linter.unusedVariables false
namespace Go.Proofs.YthilkphnjffnhaaGreat

/-- what of a span lies between two ends -/
def clip1 (lo hi : Int) (s : Sp) : Option Sp := if max s.a lo < min s.b hi then some ⟨max s.a lo, min s.b hi⟩ else none
def clipF (l : List Sp) (lo hi : Int) : List Sp := l.filterMap (clip1 lo hi)
theorem clip1_some {lo hi : Int} {s t : Sp} (h : clip1 lo hi s = some t) : t.a = max s.a lo ∧ t.b = min s.b hi ∧ t.a < t.b := by
  unfold clip1 at h
  split at h
  · cases h; exact ⟨rfl, rfl, ‹_›⟩
  · cases h
theorem clipF_len (l : List Sp) (lo hi : Int) : (clipF l lo hi).length ≤ l.length := List.length_filterMap_le _ _
theorem clipF_cnn {l : List Sp} (h : Cnn l) (lo hi : Int) : Cnn (clipF l lo hi) := by
  refine ⟨fun t ht => ?_, ?_⟩
  · obtain ⟨s, _, hs⟩ := List.mem_filterMap.1 ht
    exact (clip1_some hs).2.2
  · unfold clipF
    rw [List.pairwise_filterMap]
    refine h.gap.imp fun {s t} hst u hu v hv => ?_
    have h1 := clip1_some hu
    have h2 := clip1_some hv
    omega
theorem clipF_mem (l : List Sp) (lo hi x : Int) : memS (clipF l lo hi) x ↔ memS l x ∧ lo ≤ x ∧ x < hi := by
  constructor
  · rintro ⟨t, ht, h1, h2⟩
    obtain ⟨s, hs, hst⟩ := List.mem_filterMap.1 ht
    have h3 := clip1_some hst
    exact ⟨⟨s, hs, by omega, by omega⟩, by omega, by omega⟩
  · rintro ⟨⟨s, hs, h1, h2⟩, h3, h4⟩
    refine ⟨⟨max s.a lo, min s.b hi⟩, List.mem_filterMap.2 ⟨s, hs, ?_⟩, by simp only; omega, by simp only; omega⟩
    unfold clip1
    rw [if_pos (by omega)]
theorem clipF_sub {l : List Sp} {lo hi : Int} {t : Sp} (h : t ∈ clipF l lo hi) : ∃ s ∈ l, s.a ≤ t.a ∧ t.b ≤ s.b := by
  obtain ⟨s, hs, hst⟩ := List.mem_filterMap.1 h
  have h3 := clip1_some hst
  exact ⟨s, hs, by omega, by omega⟩
theorem meetF_clip {l : List Sp} {lo hi : Int} (h : CanonS l) (hv : validB lo hi = true) : meetF l [⟨lo, hi⟩] = clipF l lo hi := by
  have hb : CanonS [(⟨lo, hi⟩ : Sp)] := ⟨by simp, fun s hs => by simp at hs; subst hs; exact hv, fun i hi => by simp at hi⟩
  have hs := combF_spec (rule := fun x y => x && y) rfl h hb
  refine hs.1.uniq (clipF_cnn (canonS_cnn h) lo hi) fun x => ?_
  rw [clipF_mem]
  by_cases h1 : memS l x <;> by_cases h2 : lo ≤ x ∧ x < hi
  · rw [hs.2 x true true (by simp [h1]) (by rw [memS_one]; simp [inS, h2])]; simp [h1, h2]
  · rw [hs.2 x true false (by simp [h1]) (by rw [memS_one]; simp only [inS]; simp; omega)]; simp [h1]; omega
  · rw [hs.2 x false true (by simp [h1]) (by rw [memS_one]; simp [inS, h2])]; simp [h1]
  · rw [hs.2 x false false (by simp [h1]) (by rw [memS_one]; simp only [inS]; simp; omega)]; simp [h1]

/-- how many numbers -/
def sizeS (l : List Sp) : Nat := (l.map fun s => (s.b - s.a).toNat).sum
theorem clipF_size {l : List Sp} (h : ∀ s ∈ l, s.a < s.b) (lo hi : Int) : sizeS (clipF l lo hi) ≤ sizeS l ∧ (clipF l lo hi ≠ l → sizeS (clipF l lo hi) < sizeS l) := by
  induction l with
  | nil => exact ⟨Nat.le_refl _, fun h => absurd rfl h⟩
  | cons s l ih =>
    have ih := ih (fun t ht => h t (by simp [ht]))
    have hs := h s (by simp)
    have e2 : sizeS (s :: l) = (s.b - s.a).toNat + sizeS l := by simp [sizeS]
    cases hc : clip1 lo hi s with
    | none =>
      have e : clipF (s :: l) lo hi = clipF l lo hi := by unfold clipF; rw [List.filterMap_cons_none hc]
      rw [e, e2]
      exact ⟨by omega, fun _ => by omega⟩
    | some t =>
      have e : clipF (s :: l) lo hi = t :: clipF l lo hi := by unfold clipF; rw [List.filterMap_cons_some hc]
      have h3 := clip1_some hc
      have e3 : sizeS (t :: clipF l lo hi) = (t.b - t.a).toNat + sizeS (clipF l lo hi) := by simp [sizeS]
      rw [e, e2, e3]
      refine ⟨by omega, fun hne => ?_⟩
      by_cases ht : t = s
      · subst ht
        have := ih.2 (fun e => hne (by rw [e]))
        omega
      · have : t.a ≠ s.a ∨ t.b ≠ s.b := by
          by_cases g1 : t.a = s.a
          · by_cases g2 : t.b = s.b
            · exact absurd (sp_eq_iff.2 ⟨g1, g2⟩) ht
            · exact .inr g2
          · exact .inl g1
        omega
theorem ofF_cnn_self {l : List Sp} (h : Cnn l) : ofF l = l := (ofF_cnn h.ne).1.uniq h (ofF_cnn h.ne).2

/-- a choice, but for where its spans lie -/
structure Cc where
  i : Nat
  j : Nat
  l : List Sp
theorem Cc.ext' {c d : Cc} (h1 : c.i = d.i) (h2 : c.j = d.j) (h3 : c.l = d.l) : c = d := by
  obtain ⟨a, b, l⟩ := c; obtain ⟨a', b', l'⟩ := d; simp only at *; rw [h1, h2, h3]
def hullsC (cs : List Cc) : List Bd := cs.flatMap fun c => hullF c.i c.j c.l
def loM (M : Mx) (c : Cc) : Int := if M c.j c.i < 4398046511104 then -(M c.j c.i) else -4398046511104
def hiM (M : Mx) (c : Cc) : Int := if M c.i c.j < 4398046511104 then M c.i c.j + 1 else 4398046511104
def stepL (M : Mx) (c : Cc) : List Sp := clipF (ofF c.l) (loM M c) (hiM M c)
def stepC (M : Mx) (c : Cc) : Cc := ⟨c.i, c.j, stepL M c⟩
/-- what narrowing comes to -/
inductive NarTo (n : Nat) : List Cc → Option (List Cc) → Prop
  | no {cs : List Cc} : tightF n (hullsC cs) = none → NarTo n cs none
  | out {cs : List Cc} {M : Mx} {c : Cc} : tightF n (hullsC cs) = some M → c ∈ cs → stepL M c = [] → NarTo n cs none
  | done {cs : List Cc} {M : Mx} : tightF n (hullsC cs) = some M → (∀ c ∈ cs, stepL M c ≠ []) → cs.map (stepC M) = cs → NarTo n cs (some cs)
  | more {cs : List Cc} {M : Mx} {r : Option (List Cc)} : tightF n (hullsC cs) = some M → (∀ c ∈ cs, stepL M c ≠ []) → cs.map (stepC M) ≠ cs → NarTo n (cs.map (stepC M)) r → NarTo n cs r
theorem NarTo.det {n : Nat} {cs : List Cc} {r r' : Option (List Cc)} (h : NarTo n cs r) (h' : NarTo n cs r') : r = r' := by
  induction h with
  | no e => cases h' with
    | no _ => rfl
    | out e' _ _ => rfl
    | done e' _ _ => rw [e] at e'; cases e'
    | more e' _ _ _ => rw [e] at e'; cases e'
  | out e hc hn => cases h' with
    | no _ => rfl
    | out e' _ _ => rfl
    | done e' ha _ => rw [e] at e'; cases e'; exact absurd hn (ha _ hc)
    | more e' ha _ _ => rw [e] at e'; cases e'; exact absurd hn (ha _ hc)
  | done e ha he => cases h' with
    | no e' => rw [e] at e'; cases e'
    | out e' hc hn => rw [e] at e'; cases e'; exact absurd hn (ha _ hc)
    | done _ _ _ => rfl
    | more e' _ hne _ => rw [e] at e'; cases e'; exact absurd he hne
  | more e ha hne _ ih => cases h' with
    | no e' => rw [e] at e'; cases e'
    | out e' hc hn => rw [e] at e'; cases e'; exact absurd hn (ha _ hc)
    | done e' _ he => rw [e] at e'; cases e'; exact absurd he hne
    | more e' _ _ h2 => rw [e] at e'; cases e'; exact ih h2

/-- valid choices, as they are held on the way -/
structure CcOk (n : Nat) (cs : List Cc) : Prop where
  len : cs.length ≤ 60
  at_ : ∀ c ∈ cs, c.i < n ∧ c.j < n ∧ 1 ≤ c.l.length ∧ c.l.length ≤ 8 ∧ ∀ s ∈ c.l, spanOk s = true
theorem spanOk_iff {s : Sp} : spanOk s = true ↔ -1073741824 ≤ s.a ∧ s.b ≤ 1073741824 ∧ s.a < s.b := by
  simp only [spanOk, Bool.and_eq_true, nearB_iff, decide_eq_true_eq]; omega
theorem mergeL_len' (l : List Sp) : (ofF l).length ≤ l.length := by
  have h1 := mergeL_len (isortS l)
  rw [(isortS_perm l).length_eq] at h1
  exact h1
/-- the ends of a canonical list are ends of what it holds -/
theorem cnn_in {l : List Sp} (h : Cnn l) {lo hi : Int} (hm : ∀ x, memS l x → lo ≤ x ∧ x < hi) : ∀ s ∈ l, lo ≤ s.a ∧ s.b ≤ hi := fun s hs => by
  have hv := h.ne s hs
  have h1 := hm s.a ⟨s, hs, Int.le_refl _, hv⟩
  have h2 := hm (s.b - 1) ⟨s, hs, by omega, by omega⟩
  omega
theorem ofF_ok {l : List Sp} (h : ∀ s ∈ l, spanOk s = true) : ∀ s ∈ ofF l, spanOk s = true := fun s hs => by
  have hc := ofF_cnn (l := l) (fun s hs => (spanOk_iff.1 (h s hs)).2.2)
  have := cnn_in hc.1 (lo := -1073741824) (hi := 1073741824) (fun x hx => by
    obtain ⟨t, ht, h1, h2⟩ := (hc.2 x).1 hx
    have := spanOk_iff.1 (h t ht)
    omega) s hs
  exact spanOk_iff.2 ⟨this.1, this.2, hc.1.ne s hs⟩
theorem stepC_ok {n : Nat} {cs : List Cc} {M : Mx} (h : CcOk n cs) (hne : ∀ c ∈ cs, stepL M c ≠ []) : CcOk n (cs.map (stepC M)) := by
  refine ⟨by rw [List.length_map]; exact h.len, fun c hc => ?_⟩
  obtain ⟨d, hd, rfl⟩ := List.mem_map.1 hc
  obtain ⟨h1, h2, h3, h4, h5⟩ := h.at_ d hd
  refine ⟨h1, h2, List.length_pos_iff.2 (hne d hd), ?_, fun s hs => ?_⟩
  · have g1 := clipF_len (ofF d.l) (loM M d) (hiM M d)
    have g2 := mergeL_len' d.l
    exact Nat.le_trans g1 (Nat.le_trans g2 h4)
  · have hs : s ∈ clipF (ofF d.l) (loM M d) (hiM M d) := hs
    obtain ⟨t, ht, g1, g2⟩ := clipF_sub hs
    have g3 := spanOk_iff.1 (ofF_ok h5 t ht)
    have hc := ofF_cnn (l := d.l) (fun s hs => (spanOk_iff.1 (h5 s hs)).2.2)
    exact spanOk_iff.2 ⟨by omega, by omega, (clipF_cnn hc.1 _ _).ne s hs⟩
theorem hulls_valid {n : Nat} {cs : List Cc} (h : CcOk n cs) (h1 : 1 ≤ n) (h2 : n ≤ 24) : bvalid n (hullsC cs) = true := by
  refine bvalid_iff.2 ⟨by omega, by omega, ?_, fun b hb => ?_⟩
  · have : (hullsC cs).length = cs.length * 2 := by
      unfold hullsC
      generalize cs = cs'
      induction cs' with
      | nil => rfl
      | cons c cs ih => rw [List.flatMap_cons, List.length_append, ih]; simp [hullF]; omega
    have := h.len
    omega
  · obtain ⟨c, hc, hb⟩ := List.mem_flatMap.1 hb
    obtain ⟨g1, g2, g3, g4, g5⟩ := h.at_ c hc
    have hn : nearB (c.l.getD 0 default).a = true ∧ nearB (c.l.getD 0 default).b = true := by
      have := g5 (c.l.getD 0 default) (by rw [getD_at (by omega)]; exact List.getElem_mem _)
      simp only [spanOk, Bool.and_eq_true] at this
      exact ⟨this.1.1, this.1.2⟩
    have hf := fold_near g5 _ _ hn.1 hn.2
    have f1 := nearB_iff.1 hf.1
    have f2 := nearB_iff.1 hf.2
    have hge : ∀ (l : List Sp) (b : Int), b ≤ l.foldl (fun b s => max b s.b) b := by
      intro l
      induction l with
      | nil => intro b; exact Int.le_refl _
      | cons s l ih => intro b; exact Int.le_trans (Int.le_max_left _ _) (ih _)
    have g6 := hge c.l (c.l.getD 0 default).b
    have g7 : (c.l.getD 0 default).a < (c.l.getD 0 default).b := (spanOk_iff.1 (g5 (c.l.getD 0 default) (by rw [getD_at (by omega)]; exact List.getElem_mem _))).2.2
    have g8 := nearB_iff.1 hn.1
    have e1 : hiF c.l = c.l.foldl (fun b s => max b s.b) (c.l.getD 0 default).b := rfl
    have e2 : loF c.l = c.l.foldl (fun a s => min a s.a) (c.l.getD 0 default).a := rfl
    rw [← e1] at f2 g6
    rw [← e2] at f1
    simp only [hullF, List.mem_cons, List.not_mem_nil, or_false] at hb
    rcases hb with rfl | rfl
    · exact rightB_iff.2 ⟨by simp only; omega, by simp only; omega, by simp only; omega, by simp only; omega, by simp only; omega, by simp only; omega⟩
    · exact rightB_iff.2 ⟨by simp only; omega, by simp only; omega, by simp only; omega, by simp only; omega, by simp only; omega, by simp only; omega⟩

/-- what falls from round to round -/
def muC (c : Cc) : Nat := sizeS (ofF c.l) + if c.l = ofF c.l then 0 else 1
def mu (cs : List Cc) : Nat := (cs.map muC).sum
theorem muC_step {M : Mx} {c : Cc} (h : ∀ s ∈ c.l, spanOk s = true) : muC (stepC M c) ≤ muC c ∧ (stepC M c ≠ c → muC (stepC M c) < muC c) := by
  have hc := ofF_cnn (l := c.l) (fun s hs => (spanOk_iff.1 (h s hs)).2.2)
  have hs : Cnn (stepL M c) := clipF_cnn hc.1 _ _
  have e1 : muC (stepC M c) = sizeS (stepL M c) := by
    have e : ofF (stepL M c) = stepL M c := ofF_cnn_self hs
    show sizeS (ofF (stepL M c)) + (if stepL M c = ofF (stepL M c) then 0 else 1) = _
    rw [e, if_pos rfl]; rfl
  have h1 := clipF_size hc.1.ne (loM M c) (hiM M c)
  have e2 : clipF (ofF c.l) (loM M c) (hiM M c) = stepL M c := rfl
  rw [e2] at h1
  rw [e1]
  unfold muC
  by_cases e : c.l = ofF c.l
  · rw [if_pos e]
    refine ⟨by omega, fun hne => ?_⟩
    have := h1.2 (fun e3 => hne (Cc.ext' rfl rfl (by rw [e]; exact e3)))
    omega
  · rw [if_neg e]
    exact ⟨by omega, fun _ => by omega⟩
theorem mu_step {n : Nat} {M : Mx} : ∀ {cs : List Cc}, (∀ c ∈ cs, ∀ s ∈ c.l, spanOk s = true) → mu (cs.map (stepC M)) ≤ mu cs ∧ (cs.map (stepC M) ≠ cs → mu (cs.map (stepC M)) < mu cs)
  | [], _ => ⟨Nat.le_refl _, fun h => absurd rfl h⟩
  | c :: cs, h => by
    have h1 := muC_step (M := M) (h c (by simp))
    have h2 := mu_step (n := n) (M := M) (cs := cs) (fun d hd => h d (by simp [hd]))
    have e : mu ((c :: cs).map (stepC M)) = muC (stepC M c) + mu (cs.map (stepC M)) := by simp [mu]
    have e' : mu (c :: cs) = muC c + mu cs := by simp [mu]
    rw [e, e']
    refine ⟨by omega, fun hne => ?_⟩
    by_cases g : stepC M c = c
    · have := h2.2 (fun e => hne (by rw [List.map_cons, g, e]))
      omega
    · have := h1.2 g
      omega
/-- what a tight matrix lets through is a span -/
theorem in_valid {n : Nat} {l : List Bd} {M : Mx} (hv : bvalid n l = true) (h : tightF n l = some M) {c : Cc} (hi : c.i < n) (hj : c.j < n) : validB (loM M c) (hiM M c) = true := by
  have hc := tight_closed hv h
  have h1 := hc.size c.i c.j hi hj
  have h2 := hc.size c.j c.i hj hi
  have h3 := hc.tri c.i c.j c.i hi hj hi
  rw [hc.diag c.i hi] at h3
  unfold plusD at h3
  unfold loM hiM
  apply validB_iff.2
  split at h3 <;> split <;> split <;> omega
end Go.Proofs.YthilkphnjffnhaaGreat

/- disjunctive.Narrow, walked. -/
namespace Go.Proofs.YthilkphnjffnhaaGreat
open Go.RowKit Go.Shelf

def Ch.core (c : Ch) : Cc := ⟨c.i.toNat, c.j.toNat, c.l⟩
/-- the choices that Narrow holds -/
structure NarS (w : World) (base : Nat) (v : Value) (xs : List Ch) : Prop where
  own : OwL Ch.enc 3 91 w base v xs
  sp : ∀ x ∈ xs, RdS Sp.enc 2 w x.A x.l
  nn : ∀ x ∈ xs, 0 ≤ x.i ∧ 0 ≤ x.j
  far : ∀ x ∈ xs, ∀ p, x.A = some p → v.ownBlock ≠ some p.block
theorem NarS.below {w w' : World} {base : Nat} {v : Value} {xs : List Ch} (h : NarS w base v xs) (hb : Below w.heap.size w w') : NarS w' base v xs :=
  ⟨h.own.below hb, fun x hx => (h.sp x hx).below hb, h.nn, h.far⟩
theorem NarS.chs {w : World} {base : Nat} {v : Value} {xs : List Ch} (h : NarS w base v xs) (hl : xs.length ≤ 60) : ∃ A c, v = .slice A xs.length c ∧ ChS w A xs := by
  obtain ⟨A, c, e, hr⟩ := h.own.rd enc128.len (by omega)
  exact ⟨A, c, e, hr, h.sp⟩
theorem hulls_core {xs : List Ch} (h : ∀ x ∈ xs, 0 ≤ x.i ∧ 0 ≤ x.j) : hullsF xs = hullsC (xs.map Ch.core) := by
  unfold hullsF hullsC
  induction xs with
  | nil => rfl
  | cons x xs ih =>
    have hx := h x (by simp)
    rw [List.flatMap_cons, List.map_cons, List.flatMap_cons, ih (fun y hy => h y (by simp [hy]))]
    have e1 : ((x.i.toNat : Nat) : Int) = x.i := by omega
    have e2 : ((x.j.toNat : Nat) : Int) = x.j := by omega
    simp only [Ch.core, e1, e2]
theorem dvalid_ok {n : Nat} {l : List Ch} (h : dvalid n l = true) : 1 ≤ n ∧ n ≤ 24 ∧ CcOk n (l.map Ch.core) ∧ ∀ x ∈ l, 0 ≤ x.i ∧ 0 ≤ x.j := by
  simp only [dvalid, Bool.and_eq_true, decide_eq_true_eq, List.all_eq_true] at h
  obtain ⟨⟨⟨h1, h2⟩, h3⟩, h4⟩ := h
  have hc : ∀ x ∈ l, 0 ≤ x.i ∧ x.i < n ∧ 0 ≤ x.j ∧ x.j < n ∧ 1 ≤ x.l.length ∧ x.l.length ≤ 8 ∧ ∀ s ∈ x.l, spanOk s = true := fun x hx => by
    have := h4 x hx
    simp only [choiceOk, Bool.and_eq_true, decide_eq_true_eq] at this
    obtain ⟨⟨⟨⟨⟨⟨a, b⟩, c⟩, d⟩, e⟩, f⟩, g⟩ := this
    exact ⟨a, b, c, d, e, f, g⟩
  refine ⟨by omega, by omega, ⟨by rw [List.length_map]; exact h3, fun c hc2 => ?_⟩, fun x hx => ⟨(hc x hx).1, (hc x hx).2.2.1⟩⟩
  obtain ⟨x, hx, rfl⟩ := List.mem_map.1 hc2
  obtain ⟨g1, g2, g3, g4, g5, g6, g7⟩ := hc x hx
  exact ⟨by simp only [Ch.core]; omega, by simp only [Ch.core]; omega, g5, g6, g7⟩

/-- a choice's spans turned, in a row of the call's own -/
theorem own_setL {w : World} {base g cap : Nat} {xs : List Ch} {k : Nat} (hk : k < xs.length) (A : Option Addr) (c : Nat) (L : List Sp) (h : OwL Ch.enc 3 91 w base (.slice (some ⟨g, 0, none⟩) xs.length cap) xs) :
    OwL Ch.enc 3 91 (w.setCell ⟨g, k * 3 + 2, none⟩ (.slice A L.length c)) base (.slice (some ⟨g, 0, none⟩) xs.length cap) (xs.set k ⟨xs[k].i, xs[k].j, A, c, L⟩) := by
  unfold OwL at *
  rw [List.length_set]
  have hs := (World.ownsRow.stored h (k * 3 + 2) (.slice A L.length c)).1
  have e : (xs.flatMap Ch.enc).set (k * 3 + 2) (.slice A L.length c) = (xs.set k ⟨xs[k].i, xs[k].j, A, c, L⟩).flatMap Ch.enc := by
    clear hs h
    induction xs generalizing k with
    | nil => simp at hk
    | cons x xs ih =>
      cases k with
      | zero => simp [Ch.enc]
      | succ k =>
        have := ih (k := k) (by simpa using hk)
        simp only [List.flatMap_cons, List.set_cons_succ, List.getElem_cons_succ]
        rw [← this]
        have h3 : (Ch.enc x).length = 3 := rfl
        rw [List.set_append_right _ _ (by rw [h3]; omega), h3]
        congr 2
        omega
  rwa [e] at hs

theorem box_fz {wr w4 : World} {l : Array Value} {e : TypeId} {nq : Nat} (h : (wr.alloc (.cells l e)).drewN nq = w4) : ∀ p, w4.frozen? ⟨wr.heap.size, p, none⟩ = false := by
  subst h
  intro p
  show (wr.alloc _).frozen? _ = _
  simp
theorem drw_eq {w w' : World} {nq : Nat} (h : w.drewN nq = w') : Below w.heap.size w w' ∧ (∀ p, w'.cell? p = w.cell? p) ∧ (∀ p, w'.frozen? p = w.frozen? p) ∧ w'.heap.size = w.heap.size := by
  subst h
  exact ⟨below_drewN (Below.refl _ _) nq, fun p => rfl, fun p => rfl, rfl⟩
theorem next_eq {α : Type} {f : α → α} {cs : List α} {k : Nat} (hk : k < cs.length) (h : f cs[k] = cs[k]) : (cs.take (k + 1)).map f ++ cs.drop (k + 1) = (cs.take k).map f ++ cs.drop k := by
  rw [List.take_succ_eq_append_getElem hk, List.map_append, List.map_cons, List.map_nil, h, List.append_assoc, List.singleton_append, ← List.drop_eq_getElem_cons hk]
theorem next_ch {α : Type} {f : α → α} {cs : List α} {k : Nat} (hk : k < cs.length) : ((cs.take (k + 1)).map f ≠ cs.take (k + 1)) ↔ ((cs.take k).map f ≠ cs.take k ∨ f cs[k] ≠ cs[k]) := by
  rw [List.take_succ_eq_append_getElem hk, List.map_append, List.map_cons, List.map_nil]
  constructor
  · intro h
    by_cases h1 : (cs.take k).map f = cs.take k
    · right; intro h2; apply h; rw [h1, h2]
    · exact .inl h1
  · intro h e
    have e2 := List.append_inj' e rfl
    rcases h with h | h
    · exact h e2.1
    · exact h (by simpa using e2.2)
theorem RdS.far {α : Type} {enc : α → List Value} {k : Nat} {w : World} {A : Option Addr} {xs : List α} (h : RdS enc k w A xs) {q : Addr} (hq : ∀ p, A = some p → p.block ≠ q.block) (v : Value) : RdS enc k (w.setCell q v) A xs := by
  refine ⟨h.len, fun i x hx => ?_⟩
  obtain ⟨b, off, e, hb, hc⟩ := h.cells i x hx
  refine ⟨b, off, e, by simpa [World.setCell] using hb, fun j u hu => ?_⟩
  rw [World.cell?_setCell_other _ _ _ _ (fun e2 => hq _ e (by rw [e2]))]
  exact hc j u hu
theorem nar_set {w : World} {base g cap : Nat} {ys : List Ch} {k : Nat} (hk : k < ys.length) (h : NarS w base (.slice (some ⟨g, 0, none⟩) ys.length cap) ys) (A : Option Addr) (c : Nat) (X : List Sp) (hr : RdS Sp.enc 2 w A X) (hA : ∀ p, A = some p → (Value.slice (some ⟨g, 0, none⟩) ys.length cap).ownBlock ≠ some p.block) :
    NarS (w.setCell ⟨g, k * 3 + 2, none⟩ (.slice A X.length c)) base (.slice (some ⟨g, 0, none⟩) ys.length cap) (ys.set k ⟨ys[k].i, ys[k].j, A, c, X⟩) := by
  have key : ∀ y ∈ ys.set k ⟨ys[k].i, ys[k].j, A, c, X⟩, y ∈ ys ∨ y = ⟨ys[k].i, ys[k].j, A, c, X⟩ := fun y hy => List.mem_or_eq_of_mem_set hy
  have ne_of : ∀ {B : Option Addr}, (∀ p, B = some p → (Value.slice (some ⟨g, 0, none⟩) ys.length cap).ownBlock ≠ some p.block) → ∀ p, B = some p → p.block ≠ g := fun hB p hp e => hB p hp (by simp [Value.ownBlock, e])
  refine ⟨own_setL hk A c X h.own, fun y hy => ?_, fun y hy => ?_, fun y hy => ?_⟩
  · rcases key y hy with h1 | rfl
    · exact (h.sp y h1).far (ne_of (h.far y h1)) _
    · exact hr.far (ne_of hA) _
  · rcases key y hy with h1 | rfl
    · exact h.nn y h1
    · exact h.nn ys[k] (List.getElem_mem hk)
  · rcases key y hy with h1 | rfl
    · exact h.far y h1
    · exact hA
/-- the state between rounds -/
structure NarR (w0 : World) (n : Nat) (l : List Ch) (w : World) (v : Value) (xs : List Ch) : Prop where
  st : NarS w w0.heap.size v xs
  ok : CcOk n (xs.map Ch.core)
  nil : v = .slice none 0 0 ↔ xs = [] ∧ v = .slice none 0 0
  low : Below w0.heap.size w0 w
  reach : ∀ r, NarTo n (xs.map Ch.core) r → NarTo n (l.map Ch.core) r

/-- what Narrow answers -/
def NarPost (w0 : World) (n : Nat) (l : List Ch) (e : Ending) (w' : World) : Prop :=
  (∃ v xs, e = .returned (.tuple #[v, .int .i64 0]) ∧ NarS w' w0.heap.size v xs ∧ NarTo n (l.map Ch.core) (some (xs.map Ch.core))) ∨
  (e = .returned (.tuple #[.slice none 0 0, .int .i64 17]) ∧ NarTo n (l.map Ch.core) none)

set_option maxRecDepth 100000 in
set_option maxHeartbeats 8000000 in
theorem narrow_any (n : Nat) (b off c : Nat) (l : List Ch) (w : World) (hs : ChS w (some ⟨b, off, none⟩) l) (hv : dvalid n l = true) :
    Calls Tryz.prog 65 #[.int .i64 n, .slice (some ⟨b, off, none⟩) l.length c] w fun e w' => Aside (NarPost w n l e w') ∧ Below w.heap.size w w' := by
  have hvd := dvalid_any n (some ⟨b, off, none⟩) c l w hs
  rw [hv] at hvd
  obtain ⟨hn1, hn2, hok, hnn⟩ := dvalid_ok hv
  have hl60 := hok.len
  rw [List.length_map] at hl60
  have HS := Lib.hid hs; clear hs
  have HOK := Lib.hid hok; clear hok
  have HNN := Lib.hid hnn; clear hnn hv
  go_enter Tryz.func65, Tryz.ntmps65
  go_wp2_with fail
  refine hvd.mono ?_
  rintro e w1 ⟨rfl, hb1⟩
  have HB1 := Lib.hid hb1; clear hb1 hvd
  go_wp2_with fail
  refine (clone128 b off c l w1 (HS.out.below HB1.out).rd (by omega)).mono ?_
  rintro e w2 ⟨g, cap, rfl, hown, hb2⟩
  have HB2 := Lib.hid (show Below w.heap.size w w2 from HB1.out.trans (hb2.mono HB1.out.size))
  have START := Lib.hid (show NarS w2 w.heap.size (.slice (some ⟨g, 0, none⟩) l.length cap) l from ⟨hown.mono HB1.out.size, fun x hx => ((HS.out.sp x hx).below HB1.out).below hb2, HNN.out, fun x hx p hp => by
    have h1 := (HOK.out.at_ x.core (List.mem_map.2 ⟨x, hx, rfl⟩)).2.2.1
    have h2 := hown.lt g rfl
    obtain ⟨b', off', e, hb', _⟩ := (HS.out.sp x hx).at_ 0 (Nat.lt_of_lt_of_le Nat.zero_lt_one h1)
    rw [hp] at e
    cases e
    intro h3
    simp only [Value.ownBlock, Option.some.injEq] at h3
    have := HB1.out.size
    omega⟩)
  clear hown hb2 HB1 HS HNN
  have START2 := Lib.hid (show ∀ r, NarTo n (l.map Ch.core) r → NarTo n (l.map Ch.core) r from fun _ h => h)
  go_wp2
  go_loopg [7, 8, 9] (mu (l.map Ch.core)) (fun gg _ _ _ wr => ∃ xs : List Ch, xs.length = l.length ∧ mu (xs.map Ch.core) ≤ gg ∧ Aside (NarS wr w.heap.size (.slice (some ⟨g, 0, none⟩) l.length cap) xs) ∧ Aside (CcOk n (xs.map Ch.core)) ∧ Aside (∀ r, NarTo n (xs.map Ch.core) r → NarTo n (l.map Ch.core) r) ∧ Aside (Below w.heap.size w wr))
  case atStart => exact ⟨l, rfl, Nat.le_refl _, START.out, HOK.out, START2.out, HB2.out⟩
  case round =>
    obtain ⟨xs, hxl, hg, HX, HK, HR, HB⟩ := hrel
    clear START START2 HOK HB2
    have hxs : xs.length ≤ 60 := by omega
    obtain ⟨A, c2, e, hch⟩ := HX.chs hxs
    injection e with e1 e2 e3
    subst e1 e3
    clear e2
    have hhull := hulls_any (some ⟨g, 0, none⟩) cap xs wr hch hxs (fun x hx => by
      have := HK.at_ x.core (List.mem_map.2 ⟨x, hx, rfl⟩)
      exact ⟨this.2.2.1, by have := this.2.2.2.1; simp only [Ch.core] at this; omega, this.2.2.2.2⟩)
    rw [hulls_core HX.nn] at hhull
    rw [hxl] at hhull
    have hval := hulls_valid HK.out hn1 hn2
    have HV := Lib.hid hval; clear hval
    have HH := Lib.hid hhull; clear hhull
    have HX' := Lib.hid HX; have HK' := Lib.hid HK; have HR' := Lib.hid HR; have HB' := Lib.hid HB
    clear HX HK HR HB hch
    have hnz : (1 : Int) ≤ (n : Int) := by omega
    cases hT : tightF n (hullsC (xs.map Ch.core)) with
    | none =>
      have HT := Lib.hid hT; clear hT
      go_wp2_with fail
      refine HH.out.mono ?_
      rintro e w3 ⟨hv, rfl, hho, hb3⟩
      obtain ⟨A3, c3, rfl, hr3⟩ := OwL.rd hho.out enc24.len (by have := (bvalid_iff.1 HV.out).2.2.1; omega)
      have HR3 := Lib.hid hr3; clear hr3 hho
      have HB3 := Lib.hid (show Below w.heap.size w w3 from HB'.out.trans (hb3.mono HB'.out.size)); clear hb3
      go_wp2_with fail
      refine (Tight_no HR3.out HV.out HT.out).mono ?_
      rintro e w4 ⟨rfl, hb4⟩
      have HB4 := Lib.hid (HB3.out.trans (hb4.mono HB3.out.size)); clear hb4
      go_wp2
      go_ret2
      exact ⟨.inr ⟨rfl, HR'.out _ (NarTo.no HT.out)⟩, HB4.out⟩
    | some M =>
      have HT := Lib.hid hT; clear hT
      go_wp2_with fail
      refine HH.out.mono ?_
      rintro e w3 ⟨hv, rfl, hho, hb3⟩
      obtain ⟨A3, c3, rfl, hr3⟩ := OwL.rd hho.out enc24.len (by have := (bvalid_iff.1 HV.out).2.2.1; omega)
      have HR3 := Lib.hid hr3; clear hr3 hho
      have HB3 := Lib.hid (show Below w.heap.size w w3 from HB'.out.trans (hb3.mono HB'.out.size))
      have HX3 := Lib.hid (HX'.out.below hb3); clear hb3
      go_wp2_with fail
      refine (Tight_yes HR3.out HV.out HT.out).mono ?_
      rintro e w4 ⟨bm, rb, cp, rfl, hM, hb4⟩
      have HM := Lib.hid hM; clear hM
      have HB4 := Lib.hid (HB3.out.trans (hb4.mono HB3.out.size))
      have HX4 := Lib.hid (HX3.out.below hb4); clear hb4
      have hg3 : g < w3.heap.size := (HX3.out.own.lt g rfl).2
      clear HX' HX3 HR3 HB3 HB' HH
      have START := Lib.hid (show (List.map Ch.core xs) = ((List.map Ch.core xs).take 0).map (stepC M) ++ (List.map Ch.core xs).drop 0 by simp)
      have HCL := Lib.hid (show (List.map Ch.core xs).length = l.length by rw [List.length_map, hxl])
      generalize hcs : List.map Ch.core xs = cs at *
      have HCS := Lib.hid hcs; clear hcs
      have START2 := Lib.hid (show (false = true ↔ (cs.take 0).map (stepC M) ≠ cs.take 0) by simp)
      have lo3 := w3.heap.size
      go_wp2
      go_loopg [9, 34] l.length (fun gg s9 s34 wr => ∃ (k : Nat) (ch : Bool) (ys : List Ch), k ≤ l.length ∧ l.length - k ≤ gg ∧ s34 = .int .i64 k ∧ s9 = .bool ch ∧ Aside (ch = true ↔ (cs.take k).map (stepC M) ≠ cs.take k) ∧ ys.length = l.length ∧
        Aside (NarS wr w.heap.size (.slice (some ⟨g, 0, none⟩) l.length cap) ys) ∧ Aside (ys.map Ch.core = (cs.take k).map (stepC M) ++ cs.drop k) ∧ Aside (∀ c ∈ cs.take k, stepL M c ≠ []) ∧ Aside (Mat wr w3.heap.size bm rb cp n n M) ∧ Aside (Below w.heap.size w wr))
      case atStart => exact ⟨0, false, xs, Nat.zero_le _, by omega, rfl, rfl, START2.out, hxl, HX4.out, by rw [HCS.out]; exact START.out, (show Aside _ from fun c hc => by simp at hc), HM.out, HB4.out⟩
      case round =>
        obtain ⟨k, ch, ys, hk, hgk, rfl, rfl, HCH, hyl, HY, HE, HNE, HMM, HBB⟩ := hrel
        clear START START2 HX4 HM HB4 HCS
        by_cases hlt : k < l.length
        · have hltz : (k : Int) < (l.length : Int) := by omega
          have hky : k < ys.length := by omega
          have hkc : k < cs.length := by have := HCL.out; omega
          obtain ⟨A5, c5, e, hch⟩ := HY.chs (by omega)
          injection e with e1 e2 e3
          subst e1 e3
          clear e2
          obtain ⟨_, _, e, hgw, c0, c1, c2⟩ := hch.rd.at3 hky
          cases e
          have hget := getD_at (l := ys) hky
          have hcore : (ys.getD k default).core = cs[k] := by
            rw [hget]
            have h1 : (ys.map Ch.core)[k]? = some cs[k] := by
              rw [HE.out, List.getElem?_append_right (by simp; omega)]
              simp [List.getElem?_drop, Nat.min_eq_left (Nat.le_of_lt hkc)]
            rw [List.getElem?_map, List.getElem?_eq_getElem hky] at h1
            simpa using h1
          have hsp := hch.sp (ys.getD k default) (by rw [hget]; exact List.getElem_mem hky)
          have hnn := HY.nn (ys.getD k default) (by rw [hget]; exact List.getElem_mem hky)
          have hck := HK'.out.at_ cs[k] (List.getElem_mem hkc)
          simp only [Nat.zero_add] at c0 c1 c2
          have ei : (ys.getD k default).i = ((cs[k].i : Nat) : Int) := by
            have := congrArg Cc.i hcore; simp only [Ch.core] at this; omega
          have ej : (ys.getD k default).j = ((cs[k].j : Nat) : Int) := by
            have := congrArg Cc.j hcore; simp only [Ch.core] at this; omega
          have eL : (ys.getD k default).l = cs[k].l := congrArg Cc.l hcore
          have hfar := HY.far (ys.getD k default) (by rw [hget]; exact List.getElem_mem hky)
          have HYX := Lib.hid (show ys[k].i = ((cs[k].i : Nat) : Int) ∧ ys[k].j = ((cs[k].j : Nat) : Int) ∧ ys[k].l = cs[k].l by rw [← hget]; exact ⟨ei, ej, eL⟩)
          rw [ei] at c0
          rw [ej] at c1
          rw [eL] at c2 hsp
          generalize (ys.getD k default).A = A' at *
          generalize (ys.getD k default).c = c' at *
          obtain ⟨cc, hcc⟩ : ∃ cc, cc = cs[k] := ⟨_, rfl⟩
          rw [← hcc] at c0 c1 c2 hsp hck HYX
          have HCC := Lib.hid hcc
          clear ei ej eL hget hcore hnn hch hcc
          obtain ⟨ci, cj, L⟩ := cc
          simp only at c0 c1 c2 hsp hck HYX
          obtain ⟨b6, o6, rfl, hb6, hx6⟩ := hsp.at_ 0 (by omega)
          clear hx6
          obtain ⟨hci, hcj, hL1, hL8, hLok⟩ := hck
          have HSP := Lib.hid hsp; have HLOK := Lib.hid hLok; have HFAR := Lib.hid hfar
          clear hsp hLok hfar
          have HY' := Lib.hid HY; have HE' := Lib.hid HE; have HNE' := Lib.hid HNE; have HMM' := Lib.hid HMM; have HBB' := Lib.hid HBB; have HCH' := Lib.hid HCH
          clear HY HE HNE HMM HBB HCH
          have B1 := Lib.hid (show Below wr.heap.size wr (wr.alloc (.cells #[.int .i64 ci, .int .i64 cj, .slice (some ⟨b6, o6, none⟩) L.length c'] 91)) from (Below.refl _ _).alloc (Nat.le_refl _) _)
          have hof := of_any b6 o6 c' L _ (HSP.out.below B1.out) (fun s hs => by
            have := spanOk_iff.1 (HLOK.out s hs)
            exact validB_iff.2 (by omega)) (by omega)
          have HOF := Lib.hid hof; clear hof
          go_wp2_with fail
          refine HOF.out.mono ?_
          rintro e w5 ⟨v5, ss, rfl, hso, hb5⟩
          have hlv : ∀ s ∈ L, s.a < s.b := fun s hs => (spanOk_iff.1 (HLOK.out s hs)).2.2
          have hmo := mergeL_ofF hso.1 hlv
          have hlen5 := mergeL_len' L
          have ho5 := hso.2
          rw [hmo] at ho5
          obtain ⟨A7, c7, rfl, hr7⟩ := OwL.rd ho5 enc55.len (by omega)
          have HR7 := Lib.hid hr7
          have z0 := (hb5.cell (p := ⟨wr.heap.size, 0, none⟩) (by simp)).trans (show _ = some (Value.int .i64 ci) by rw [World.cell?_alloc_new]; rfl)
          have z1 := (hb5.cell (p := ⟨wr.heap.size, 1, none⟩) (by simp)).trans (show _ = some (Value.int .i64 cj) by rw [World.cell?_alloc_new]; rfl)
          have z2 := (hb5.cell (p := ⟨wr.heap.size, 2, none⟩) (by simp)).trans (show _ = some (Value.slice (some ⟨b6, o6, none⟩) L.length c') by rw [World.cell?_alloc_new]; rfl)
          have B5 := Lib.hid (B1.out.trans (hb5.mono B1.out.size))
          have zl : wr.heap.size < w5.heap.size := by have := hb5.size; simp at this; omega
          have HM5 := Lib.hid (HMM'.out.below B5.out)
          have HLEN := Lib.hid (show (ofF L).length ≤ 8 by omega)
          have HLV := Lib.hid hlv
          have HSPW := HSP
          clear hlen5 hlv hr7 ho5 hso hb5 HOF B1 hmo c0 c1 c2 HSP
          have m1 := HM5.out.outer cj hcj
          have m2 := HM5.out.row cj ci hcj hci
          have m3 := HM5.out.olt
          have m4 := HM5.out.rlt cj hcj
          have hciz : (ci : Int) < (n : Int) := by omega
          have hcjz : (cj : Int) < (n : Int) := by omega
          go_wp2
          go_quiet (fail)
          go_upto_if 58 with fail
          generalize hw6 : World.drewN (World.alloc w5 _) _ = w6
          obtain ⟨bx, bx1, bx2, bx3⟩ := box_any (l := [.int .i64 (-4398046511104), .int .i64 4398046511104]) hw6
          have x0 := bx 0 _ rfl
          have x1 := bx 1 _ rfl
          have fx := box_fz hw6
          have f0 := fx 0
          have f1 := fx 1
          have BX := Lib.hid bx3
          clear hw6 bx bx1 bx3 fx
          obtain ⟨dlo, hdlo⟩ : ∃ d, d = M cj ci := ⟨_, rfl⟩
          obtain ⟨dhi, hdhi⟩ : ∃ d, d = M ci cj := ⟨_, rfl⟩
          have hsz1 := (tight_closed HV.out HT.out).size cj ci hcj hci
          have hsz2 := (tight_closed HV.out HT.out).size ci cj hci hcj
          rw [← hdlo] at hsz1 ⊢
          rw [← hdhi] at hsz2
          obtain ⟨lo, hlo⟩ : ∃ x, x = loM M ⟨ci, cj, L⟩ := ⟨_, rfl⟩
          obtain ⟨hi, hhi⟩ : ∃ x, x = hiM M ⟨ci, cj, L⟩ := ⟨_, rfl⟩
          have hlo' : lo = if dlo < 4398046511104 then -dlo else -4398046511104 := by rw [hlo, hdlo]; rfl
          have hhi' : hi = if dhi < 4398046511104 then dhi + 1 else 4398046511104 := by rw [hhi, hdhi]; rfl
          have HLO := Lib.hid hlo'; have HHI := Lib.hid hhi'
          have HLOD := Lib.hid (show lo = loM M ⟨ci, cj, L⟩ ∧ hi = hiM M ⟨ci, cj, L⟩ from ⟨hlo, hhi⟩)
          have HDHI := Lib.hid hdhi
          clear hlo hhi hlo' hhi' hdlo hdhi m2 m1 m4
          go_cut [] from 57 to 100 (fun wx => Aside (Below w5.heap.size w5 wx) ∧ wx.cell? ⟨w5.heap.size, 0, none⟩ = some (.int .i64 lo) ∧ wx.cell? ⟨w5.heap.size, 1, none⟩ = some (.int .i64 4398046511104) ∧ wx.frozen? ⟨w5.heap.size, 1, none⟩ = false ∧ w5.heap.size < wx.heap.size)
          case first =>
            have hlo' := HLO.out
            by_cases hd : dlo < 4398046511104
            · rw [if_pos hd] at hlo'
              subst hlo'
              have hd1 : -68719476736 ≤ dlo := by omega
              have hd2 : dlo ≤ 68719476736 := by omega
              clear hsz1 hsz2 HLOD HLO
              have BS := Lib.hid (fun v => BX.out.setCell (p := ⟨w5.heap.size, 0, none⟩) (Nat.le_refl _) v)
              go_wp2
              go_meet
              exact ⟨BS.out _, World.cell?_setCell_same _ _ _ x0, by rw [World.cell?_setCell_other _ _ _ _ (fun e => by have := congrArg Addr.off e; simp at this)]; exact x1, by rw [frozen_setCell]; exact f1, by simpa [World.setCell] using bx2⟩
            · rw [if_neg hd] at hlo'
              subst hlo'
              clear hsz1 hsz2 HLOD HLO
              go_wp2
              go_meet
              exact ⟨BX.out, x0, x1, f1, bx2⟩
          case rest =>
            obtain ⟨BC, x0', x1', f1', bx2'⟩ := hcut
            have BC' := Lib.hid BC; clear BC x0 x1 f0 f1 bx2 BX HLO hsz1
            have y2 := (BC'.out.out.cell (p := ⟨wr.heap.size, 2, none⟩) zl).trans z2
            have y0 := (BC'.out.out.cell (p := ⟨wr.heap.size, 0, none⟩) zl).trans z0
            have y1 := (BC'.out.out.cell (p := ⟨wr.heap.size, 1, none⟩) zl).trans z1
            have yl : wr.heap.size < wc.heap.size := by omega
            have HM6 := Lib.hid (HM5.out.below BC'.out.out)
            have m1 := HM6.out.outer ci hci
            have m2 := HM6.out.row ci cj hci hcj
            have m4 := HM6.out.olt
            have m5 := HM6.out.rlt ci hci
            rw [← HDHI.out] at m2
            obtain ⟨w6, rfl⟩ : ∃ w6 : World, w6 = wc := ⟨_, rfl⟩
            clear m3 z0 z1
            have Z2 := Lib.hid z2
            clear z2
            go_wp2
            go_quiet (fail)
            go_upto_if 72 with fail
            generalize hw7 : World.drewN w6 _ = w7
            obtain ⟨dB, dc, df, ds⟩ := drw_eq hw7
            rw [← dc] at x0' x1' y0 y1 y2
            rw [← df] at f1'
            rw [← ds] at bx2' yl
            have BD := Lib.hid (BC'.out.out.trans (dB.mono (by omega)))
            clear hw7 dB dc df ds BC' m1 m2 m4 m5 HM6
            go_cut [] from 71 to 100 (fun wx => Aside (Below w5.heap.size w5 wx) ∧ wx.cell? ⟨w5.heap.size, 0, none⟩ = some (.int .i64 lo) ∧ wx.cell? ⟨w5.heap.size, 1, none⟩ = some (.int .i64 hi) ∧ w5.heap.size < wx.heap.size)
            case first =>
              have hhi' := HHI.out
              by_cases hd : dhi < 4398046511104
              · rw [if_pos hd] at hhi'
                subst hhi'
                have hd1 : -68719476736 ≤ dhi := by omega
                have hd2 : dhi ≤ 68719476736 := by omega
                clear hsz2 HLOD HHI
                have BS := Lib.hid (fun v => BD.out.setCell (p := ⟨w5.heap.size, 1, none⟩) (Nat.le_refl _) v)
                go_wp2
                go_meet
                exact ⟨BS.out _, by rw [World.cell?_setCell_other _ _ _ _ (fun e => by have := congrArg Addr.off e; simp at this)]; exact x0', World.cell?_setCell_same _ _ _ x1', by simpa [World.setCell] using bx2'⟩
              · rw [if_neg hd] at hhi'
                subst hhi'
                clear hsz2 HLOD HHI
                go_wp2
                go_meet
                exact ⟨BD.out, x0', x1', bx2'⟩
            case rest =>
              obtain ⟨BE, u0, u1, u2⟩ := hcut
              have BE' := Lib.hid BE.out; clear BE BD x0' x1' y0 y1 y2 yl bx2' f1'
              have t2 := (BE'.out.cell (p := ⟨wr.heap.size, 2, none⟩) zl).trans Z2.out
              have tl : wr.heap.size < wc.heap.size := by omega
              have hcn := (ofF_cnn HLV.out).1
              have hcan : CanonS (ofF L) := cnn_canonS hcn (by have := HLEN.out; omega) (fun s hs => by
                have := spanOk_iff.1 (ofF_ok HLOK.out s hs); omega)
              have hval := in_valid HV.out HT.out (c := ⟨ci, cj, L⟩) hci hcj
              rw [← HLOD.out.1, ← HLOD.out.2] at hval
              have hcan2 : CanonS [(⟨lo, hi⟩ : Sp)] := ⟨by simp, fun s hs => by simp at hs; subst hs; exact hval, fun i hi => by simp at hi⟩
              have BW : Below wc.heap.size wc (wc.alloc (.cells #[.int .i64 lo, .int .i64 hi] 58)) := (Below.refl _ _).alloc (Nat.le_refl _) _
              have hmt := meet_any A7 (some ⟨wc.heap.size, 0, none⟩) c7 1 (ofF L) [⟨lo, hi⟩] (wc.alloc (.cells #[.int .i64 lo, .int .i64 hi] 58)) ((HR7.out.below BE'.out).below BW) (rd_blk (enc := Sp.enc) (k := 2) wc [⟨lo, hi⟩] 58 (fun _ => rfl) (by simp)) hcan hcan2 (by have := HLEN.out; simp; omega)
              have hmc : meetF (ofF L) [⟨lo, hi⟩] = stepL M ⟨ci, cj, L⟩ := by
                rw [meetF_clip hcan hval, HLOD.out.1, HLOD.out.2]; rfl
              rw [hmc] at hmt
              have hmt' : Calls Tryz.prog 130 #[.slice A7 (ofF L).length c7, .slice (some ⟨wc.heap.size, 0, none⟩) 1 1] (wc.alloc (.cells #[.int .i64 lo, .int .i64 hi] 58)) _ := hmt
              have HMT := Lib.hid hmt'
              have BX := Lib.hid (BE'.out.trans (BW.mono (by omega)))
              clear hmt hmt' hmc hcan2 hval hcan hcn BW
              obtain ⟨w8, rfl⟩ : ∃ w8 : World, w8 = wc := ⟨_, rfl⟩
              go_wp2_with fail
              refine HMT.out.mono ?_
              rintro e w9 ⟨v9, rfl, ho9, hb9⟩
              have BT := Lib.hid (B5.out.trans ((BX.out.trans (hb9.mono (by have := BX.out.size; omega))).mono B5.out.size))
              have t3 := (hb9.cell (p := ⟨wr.heap.size, 2, none⟩) (by simp; omega)).trans ((World.cell?_alloc_old _ _ _ (Nat.ne_of_lt tl)).trans t2)
              have t4 : wr.heap.size < w9.heap.size := by have := hb9.size; simp at this; omega
              have hbase : w8.heap.size ≤ (w8.alloc (.cells #[.int .i64 lo, .int .i64 hi] 58)).heap.size := by simp
              have ho9' := OwL.mono ho9.out hbase
              have hgw8 : g < w8.heap.size := by omega
              have HCK := Lib.hid (show stepC M cs[k] = ⟨ci, cj, stepL M ⟨ci, cj, L⟩⟩ by rw [← HCC.out]; rfl)
              have HSL := Lib.hid (clipF_len (ofF L) (loM M ⟨ci, cj, L⟩) (hiM M ⟨ci, cj, L⟩))
              have HY9 := Lib.hid (HY'.out.out.below BT.out)
              have HM9 := Lib.hid (HMM'.out.out.below BT.out)
              have HB9 := Lib.hid (HBB'.out.out.trans (BT.out.mono HBB'.out.out.size))
              have HRL := Lib.hid (RdS.below HSPW.out BT.out)
              clear t2 tl u0 u1 u2 BX HMT BE' Z2 hb9 hbase ho9 HR7
              generalize hX : stepL M ⟨ci, cj, L⟩ = X at *
              have HXX := Lib.hid hX; clear hX
              by_cases hX0 : X = []
              · subst hX0
                obtain ⟨A9, c9, rfl, _⟩ := OwL.rd ho9' enc55.len (by simp)
                have HN := Lib.hid (HR'.out.out none (NarTo.out HT.out (by rw [HCC.out]; exact List.getElem_mem hkc) HXX.out))
                clear ho9'
                simp only [List.length_nil]
                go_wp2
                go_ret2
                exact ⟨.inr ⟨rfl, HN.out⟩, HB9.out⟩
              · rcases ho9'.form with ⟨_, h0⟩ | ⟨g9, c9, rfl, hg9a, hg9b⟩
                · exact absurd h0 hX0
                have hX1 : 0 < X.length := List.length_pos_iff.2 hX0
                have hX1z : (1 : Int) ≤ (X.length : Int) := by omega
                have hX1n : ¬ (X.length : Int) = 0 := by omega
                obtain ⟨_, _, e9, hr9⟩ := OwL.rd ho9' enc55.len (by have h1 := HSL.out; have h2 := HLEN.out; have e : clipF (ofF L) (loM M ⟨ci, cj, L⟩) (hiM M ⟨ci, cj, L⟩) = X := HXX.out; rw [e] at h1; omega)
                cases e9
                have hXle : X.length ≤ 8 := by
                  have h1 := HSL.out; have h2 := HLEN.out; have e : clipF (ofF L) (loM M ⟨ci, cj, L⟩) (hiM M ⟨ci, cj, L⟩) = X := HXX.out; rw [e] at h1; omega
                have heq := equal41 (some ⟨g9, 0, none⟩) (some ⟨b6, o6, none⟩) c9 c' X L w9 hr9 HRL.out
                have HEQ := Lib.hid heq
                have HR9 := Lib.hid hr9
                have hne : ∀ c ∈ cs.take (k + 1), stepL M c ≠ [] := fun c hc => by
                  rw [List.take_succ_eq_append_getElem hkc] at hc
                  rcases List.mem_append.1 hc with hc | hc
                  · exact HNE'.out.out c hc
                  · simp at hc; subst hc
                    have := congrArg Cc.l HCK.out
                    intro e
                    have e2 : (stepC M cs[k]).l = stepL M cs[k] := rfl
                    rw [e2, e] at this
                    exact hX0 this.symm
                have HNX := Lib.hid hne
                clear heq hr9 hne ho9' hX0
                by_cases hXL : X = L
                · rw [decide_eq_true hXL] at HEQ
                  have hsame : stepC M cs[k] = cs[k] := by rw [HCK.out, ← HCC.out, hXL]
                  have HE2 := Lib.hid (show ys.map Ch.core = (cs.take (k + 1)).map (stepC M) ++ cs.drop (k + 1) by rw [next_eq hkc hsame]; exact HE'.out)
                  have HC2 := Lib.hid (show ch = true ↔ (cs.take (k + 1)).map (stepC M) ≠ cs.take (k + 1) by
                    rw [next_ch hkc]
                    constructor
                    · intro h; exact .inl (HCH'.out.out.1 h)
                    · rintro (h | h)
                      · exact HCH'.out.out.2 h
                      · exact absurd hsame h)
                  clear hXL hsame
                  go_wp2_with fail
                  refine HEQ.out.mono ?_
                  rintro e wE ⟨rfl, hbE⟩
                  have HBE := Lib.hid hbE; clear hbE
                  go_wp2
                  go_roundg (l.length - (k + 1))
                  case measure => omega
                  case rel => exact ⟨k + 1, ch, ys, by omega, by omega, by go_num, rfl, HC2.out, hyl, HY9.out.below HBE.out, HE2.out, HNX.out, HM9.out.below HBE.out, HB9.out.trans (HBE.out.mono HB9.out.size)⟩
                · rw [decide_eq_false hXL] at HEQ
                  have hdiff : stepC M cs[k] ≠ cs[k] := fun e => by
                    rw [HCK.out, ← HCC.out] at e
                    exact hXL (congrArg Cc.l e)
                  have HC2 := Lib.hid (show true = true ↔ (cs.take (k + 1)).map (stepC M) ≠ cs.take (k + 1) from ⟨fun _ => (next_ch hkc).2 (.inr hdiff), fun _ => rfl⟩)
                  clear hXL hdiff
                  go_wp2_with fail
                  refine HEQ.out.mono ?_
                  rintro e wE ⟨rfl, hbE⟩
                  have HYE := Lib.hid (HY9.out.below hbE)
                  have HME := Lib.hid (HM9.out.below hbE)
                  have HBE := Lib.hid (HB9.out.trans (hbE.mono HB9.out.size))
                  have HRE := Lib.hid (HR9.out.below hbE)
                  clear hbE
                  have hgE := HYE.out.own.lt g rfl
                  obtain ⟨A6, c6', e6, hch6⟩ := HYE.out.chs (by omega)
                  injection e6 with e1 e2 e3
                  subst e1 e3
                  clear e2
                  obtain ⟨_, _, e7, hgw7, _, _, s2⟩ := hch6.rd.at3 hky
                  cases e7
                  simp only [Nat.zero_add] at s2
                  have HYE' : NarS wE w.heap.size (.slice (some ⟨g, 0, none⟩) ys.length cap) ys := by rw [hyl]; exact HYE.out
                  have howE : wE.ownsRow w.heap.size 91 3 (.slice (some ⟨g, 0, none⟩) ys.length cap) ys.length (ys.flatMap Ch.enc) := HYE'.own
                  have sf : wE.frozen? ⟨g, k * 3 + 2, none⟩ = false := howE.frozenAt _
                  have hgg : g9 ≠ g := by omega
                  have NEXT := Lib.hid (nar_set hky HYE' (some ⟨g9, 0, none⟩) c9 X HRE.out (fun p hp => by cases hp; simp [Value.ownBlock]; omega))
                  clear howE HYE'
                  have NM := Lib.hid (HME.out.far (p := ⟨g, k * 3 + 2, none⟩) (by have := HME.out.olo; simp only; omega) (fun i hi => by have := HME.out.rlo i hi; simp only; omega) (.slice (some ⟨g9, 0, none⟩) X.length c9))
                  have NB := Lib.hid (HBE.out.setCell (p := ⟨g, k * 3 + 2, none⟩) hgE.1 (.slice (some ⟨g9, 0, none⟩) X.length c9))
                  have hsetE : (ys.set k ⟨ys[k].i, ys[k].j, some ⟨g9, 0, none⟩, c9, X⟩).map Ch.core = (cs.take (k + 1)).map (stepC M) ++ cs.drop (k + 1) := by
                    have hcore : (Ch.core ⟨ys[k].i, ys[k].j, some ⟨g9, 0, none⟩, c9, X⟩) = stepC M cs[k] := by
                      rw [HCK.out]
                      simp only [Ch.core, HYX.out.1, HYX.out.2.1, Int.toNat_natCast]
                    rw [List.map_set, hcore, HE'.out.out]
                    have h1 : ((cs.take k).map (stepC M)).length = k := by simp; omega
                    rw [List.set_append_right _ _ (by omega), h1, Nat.sub_self, List.take_succ_eq_append_getElem hkc, List.map_append, List.append_assoc, List.drop_eq_getElem_cons hkc]
                    rfl
                  have HSE := Lib.hid hsetE
                  clear hsetE hgE hch6
                  go_wp2
                  go_roundg (l.length - (k + 1))
                  case measure => omega
                  case rel => exact ⟨k + 1, true, _, by omega, by omega, by go_num, rfl, (show Aside _ from ⟨fun _ => HC2.out.1 trivial, fun _ => rfl⟩), by rw [List.length_set]; exact hyl, by rw [hyl] at NEXT; exact NEXT.out, HSE.out, HNX.out, NM.out, NB.out⟩
        · have hltz : ¬ (k : Int) < (l.length : Int) := by omega
          obtain rfl : l.length = k := by omega
          have htk : cs.take l.length = cs := List.take_of_length_le (by have := HCL.out; omega)
          rw [htk] at HCH HE HNE
          rw [List.drop_of_length_le (by have := HCL.out; omega), List.append_nil] at HE
          cases ch
          · have heq : cs.map (stepC M) = cs := by
              by_cases e : cs.map (stepC M) = cs
              · exact e
              · exact absurd (HCH.out.2 e) (by decide)
            have HN := Lib.hid (HR'.out.out _ (NarTo.done HT.out HNE.out heq))
            have HEQ := Lib.hid (show ys.map Ch.core = cs by rw [HE.out, heq])
            have HYY := Lib.hid HY; have HBZ := Lib.hid HBB
            clear HCH HE HNE HY HMM HBB heq
            go_wp2
            go_ret2
            exact ⟨.inl ⟨_, ys, rfl, HYY.out, by rw [HEQ.out]; exact HN.out⟩, HBZ.out⟩
          · have hne : cs.map (stepC M) ≠ cs := HCH.out.1 rfl
            have hok := HK'.out.out
            have hmu := (mu_step (n := n) (M := M) (cs := cs) (fun c hc => (hok.at_ c hc).2.2.2.2)).2 hne
            have HMU := Lib.hid hmu
            have HR2 := Lib.hid (show ∀ r, NarTo n (ys.map Ch.core) r → NarTo n (l.map Ch.core) r from fun r hr => HR'.out.out r (NarTo.more HT.out HNE.out hne (by rw [← HE.out]; exact hr)))
            have HOK2 := Lib.hid (show CcOk n (ys.map Ch.core) by rw [HE.out]; exact stepC_ok hok HNE.out)
            have HE2 := Lib.hid HE
            have HYY := Lib.hid HY; have HBZ := Lib.hid HBB
            clear HCH HE HNE HY HMM HBB hne hok hmu
            go_wp2
            go_roundg (mu (cs.map (stepC M)))
            case measure => have := HMU.out; omega
            case rel => exact ⟨ys, hyl, by rw [HE2.out.out]; exact Nat.le_refl _, HYY.out, HOK2.out, HR2.out, HBZ.out⟩
end Go.Proofs.YthilkphnjffnhaaGreat
