/- bounds: right, Valid, plus, the least of a row. -/
import Derived.Test.YthilkphnjffnhaaGreatLeaf
import Derived.Test.YthilkphnjffnhaaGreatIdx
import Derived.Test.YthilkphnjffnhaaGreatRep
set_option linter.unusedSimpArgs false
set_option linter.unusedVariables false
namespace Go.Proofs.YthilkphnjffnhaaGreat
open Go.RowKit Go.Shelf

def rightB (n : Int) (b : Bd) : Bool := decide (0 ≤ b.i ∧ b.i < n ∧ 0 ≤ b.j ∧ b.j < n ∧ -1073741824 ≤ b.m ∧ b.m ≤ 1073741824)
theorem rightB_iff {n : Int} {b : Bd} : rightB n b = true ↔ 0 ≤ b.i ∧ b.i < n ∧ 0 ≤ b.j ∧ b.j < n ∧ -1073741824 ≤ b.m ∧ b.m ≤ 1073741824 := by simp [rightB]
theorem rightB_yes {n : Int} {b : Bd} (h : 0 ≤ b.i ∧ b.i < n ∧ 0 ≤ b.j ∧ b.j < n ∧ -1073741824 ≤ b.m ∧ b.m ≤ 1073741824) : rightB n b = true := rightB_iff.2 h
theorem rightB_no {n : Int} {b : Bd} (h : ¬ (0 ≤ b.i ∧ b.i < n ∧ 0 ≤ b.j ∧ b.j < n ∧ -1073741824 ≤ b.m ∧ b.m ≤ 1073741824)) : rightB n b = false := by
  cases e : rightB n b
  · rfl
  · exact absurd (rightB_iff.1 e) h

theorem right_any (n : Int) (b : Bd) (w : World) :
    Calls Tryz.prog 69 #[.int .i64 n, b.val] w fun e w' => e = .returned (.bool (rightB n b)) ∧ Below w.heap.size w w' := by
  obtain ⟨i, j, m⟩ := b
  show Calls Tryz.prog 69 #[.int .i64 n, .agg #[.int .i64 i, .int .i64 j, .int .i64 m]] w _
  generalize hR : rightB n ⟨i, j, m⟩ = R
  have HR := Lib.hid hR; clear hR
  go_enter Tryz.func69, Tryz.ntmps69
  go_wp2
  all_goals go_ret
  all_goals refine ⟨ret_bool ?_, (Below.refl _ _).alloc (Nat.le_refl _) _⟩
  all_goals have hR := HR.out
  · by_cases h : m ≤ 1073741824
    · rw [← hR, rightB_yes (by simp only []; omega)]; simpa using h
    · rw [← hR, rightB_no (by simp only []; omega)]; simpa using h
  all_goals rw [← hR, rightB_no (by simp only []; omega)]

theorem valid1_any (n : Int) (b : Bd) (bn : Nat) (w : World) (hb : bn < w.heap.size) (hc : w.cell? ⟨bn, 0, none⟩ = some (.int .i64 n)) :
    Calls Tryz.prog 68 (#[b.val] ++ #[.pointer (some ⟨bn, 0, none⟩)]) w fun e w' => e = .returned (.bool (!rightB n b)) ∧ Below w.heap.size w w' := by
  obtain ⟨i, j, m⟩ := b
  show Calls Tryz.prog 68 #[.agg #[.int .i64 i, .int .i64 j, .int .i64 m], .pointer (some ⟨bn, 0, none⟩)] w _
  go_enter Tryz.func68, Tryz.ntmps68
  go_wp2_with (go_at_call 69; refine (right_any n ⟨i, j, m⟩ _).mono ?_; rintro e w' ⟨rfl, hb'⟩)
  go_ret
  exact ⟨rfl, ((Below.refl _ _).alloc (Nat.le_refl _) _).trans (hb'.mono (by simp))⟩

def bvalid (n : Int) (l : List Bd) : Bool := decide (1 ≤ n ∧ n ≤ 24) && decide (l.length ≤ 200) && !l.any (fun b => !rightB n b)
theorem bvalid_iff {n : Int} {l : List Bd} : bvalid n l = true ↔ 1 ≤ n ∧ n ≤ 24 ∧ l.length ≤ 200 ∧ ∀ b ∈ l, rightB n b = true := by
  simp [bvalid, and_assoc]
theorem bvalid_no1 {n : Int} {l : List Bd} (h : n < 1) : bvalid n l = false := by simp [bvalid]; omega
theorem bvalid_no2 {n : Int} {l : List Bd} (h : 24 < n) : bvalid n l = false := by simp [bvalid]; omega
theorem bvalid_no3 {n : Int} {l : List Bd} (h : 200 < l.length) : bvalid n l = false := by simp [bvalid]; omega
theorem bvalid_rest {n : Int} {l : List Bd} (h1 : 1 ≤ n) (h2 : n ≤ 24) (h3 : l.length ≤ 200) : bvalid n l = !l.any (fun b => !rightB n b) := by simp [bvalid, h1, h2, h3]

set_option maxHeartbeats 400000 in
theorem bvalid_any (n : Int) (A : Option Addr) (c : Nat) (l : List Bd) (w : World) (hs : RdS Bd.enc 3 w A l) :
    Calls Tryz.prog 15 #[.int .i64 n, .slice A l.length c] w fun e w' => e = .returned (.bool (bvalid n l)) ∧ Below w.heap.size w w' := by
  have hlen := hs.len
  have hB1 : Below w.heap.size w (w.alloc (.cells #[.int .i64 n] 3)) := (Below.refl _ _).alloc (Nat.le_refl _) _
  by_cases h1 : 1 ≤ n
  · by_cases h2 : n ≤ 24
    · by_cases h3 : l.length ≤ 200
      · have h3' : (l.length : Int) ≤ 200 := by omega
        have hc := containsFunc67 68 #[.pointer (some ⟨w.heap.size, 0, none⟩)] (enters_of Tryz.func68 (by kernel_rfl) rfl) (fun b => !rightB n b) A c l (w.alloc (.cells #[.int .i64 n] 3)) (hs.below hB1)
          (fun b _ W hW => valid1_any n b w.heap.size W (by have := hW.size; simp at this; omega) (by rw [hW.cell (by simp)]; simp))
        go_enter Tryz.func15, Tryz.ntmps15
        go_wp2_with (go_at_call 67; refine hc.mono ?_; rintro e w' ⟨rfl, hb'⟩)
        go_ret
        exact ⟨ret_bool (by rw [bvalid_rest h1 h2 h3]), hB1.trans (hb'.mono (by simp))⟩
      · have h3' : ¬ (l.length : Int) ≤ 200 := by omega
        go_enter Tryz.func15, Tryz.ntmps15
        go_wp2
        go_ret
        exact ⟨ret_bool (by rw [bvalid_no3 (by omega)]), hB1⟩
    · go_enter Tryz.func15, Tryz.ntmps15
      go_wp2
      go_ret
      exact ⟨ret_bool (by rw [bvalid_no2 (by omega)]), hB1⟩
  · go_enter Tryz.func15, Tryz.ntmps15
    go_wp2
    go_ret
    exact ⟨ret_bool (by rw [bvalid_no1 (by omega)]), hB1⟩

/-- the sum of two distances -/
def plusD (a b : Int) : Int := if a = 4398046511104 ∨ b = 4398046511104 then 4398046511104 else a + b

theorem plus_any (a b : Int) (w : World) (ha : -1125899906842624 ≤ a) (ha' : a ≤ 1125899906842624) (hb : -1125899906842624 ≤ b) (hb' : b ≤ 1125899906842624) :
    Calls Tryz.prog 72 #[.int .i64 a, .int .i64 b] w fun e w' => e = .returned (.int .i64 (plusD a b)) ∧ w = w' := by
  by_cases h1 : a = 4398046511104
  · have HP := Lib.hid (show plusD a b = 4398046511104 by unfold plusD; rw [if_pos (.inl h1)])
    have e1 : (a == 4398046511104) = true := by simpa using h1
    clear h1
    go_enter Tryz.func72, Tryz.ntmps72
    go_wp2
    go_ret
    exact ⟨ret_int HP.out.symm, rfl⟩
  · have e1 : (a == 4398046511104) = false := by simpa using h1
    by_cases h2 : b = 4398046511104
    · have HP := Lib.hid (show plusD a b = 4398046511104 by unfold plusD; rw [if_pos (.inr h2)])
      have e2 : (b == 4398046511104) = true := by simpa using h2
      clear h2
      go_enter Tryz.func72, Tryz.ntmps72
      go_wp2
      go_ret
      exact ⟨ret_int HP.out.symm, rfl⟩
    · have HP := Lib.hid (show plusD a b = a + b by unfold plusD; rw [if_neg (by omega)])
      have e2 : (b == 4398046511104) = false := by simpa using h2
      go_enter Tryz.func72, Tryz.ntmps72
      go_wp2_with (go_at_call 139; refine (add_any a b _ ha ha' hb hb').mono ?_; rintro e w' ⟨rfl, rfl⟩)
      go_ret
      exact ⟨ret_int HP.out.symm, rfl⟩

end Go.Proofs.YthilkphnjffnhaaGreat

/- slices.Min of a row that is not empty; the test of a row in bounds.tight; a matrix in memory. -/
namespace Go.Proofs.YthilkphnjffnhaaGreat
open Go.RowKit Go.Shelf

set_option maxRecDepth 100000 in
set_option maxHeartbeats 400000 in
theorem min_any (A : Option Addr) (c : Nat) (xs : List Int) (w : World) (hs : RdS encI 1 w A xs) (hne : 0 < xs.length) :
    Calls Tryz.prog 136 #[.slice A xs.length c] w fun e w' => ∃ m : Int, e = .returned (.int .i64 m) ∧ Aside (m ∈ xs ∧ ∀ x ∈ xs, m ≤ x) ∧ w = w' := by
  have hlen := hs.len
  obtain ⟨b, off, rfl, hb, hc0⟩ := hs.at_ 0 hne
  have hcell : ∀ i, (hi : i < xs.length) → w.cell? ⟨b, off + i, none⟩ = some (.int .i64 xs[i]) := fun i hi => by
    obtain ⟨b', off', e, _, hc⟩ := hs.at_ i hi
    cases e
    simpa [encI] using hc 0 _ rfl
  have c0 : w.cell? ⟨b, off, none⟩ = _ := hcell 0 hne
  have h1 : ¬ (xs.length : Int) < 1 := by omega
  have HC := Lib.hid hcell
  clear hcell hc0 hs
  generalize hx0 : xs[0] = x0 at c0
  have HX0 := Lib.hid hx0; clear hx0
  go_enter Tryz.func136, Tryz.ntmps136
  go_wp2
  go_loopg [3, 4] xs.length (fun gg s3 s4 wr => wr = w ∧ ∃ (k : Nat) (m : Int), 1 ≤ k ∧ k ≤ xs.length ∧ xs.length - k ≤ gg ∧ s4 = .int .i64 k ∧ s3 = .int .i64 m ∧ Aside (m ∈ xs ∧ ∀ i (hi : i < xs.length), i < k → m ≤ xs[i]))
  case atStart => 
    refine ⟨rfl, 1, x0, by omega, by omega, by omega, rfl, rfl, ?_⟩
    have := HX0.out
    subst this
    refine ⟨List.getElem_mem hne, fun i hi h => ?_⟩
    have : i = 0 := by omega
    subst this; omega
  case round =>
    obtain ⟨rfl, k, m, hk1, hk2, hg, rfl, rfl, HM⟩ := hrel
    by_cases hlt : k < xs.length
    · have hltz : (k : Int) < (xs.length : Int) := by omega
      have ck := HC.out k hlt
      generalize hxk : xs[k] = xk at ck
      have HXK := Lib.hid hxk; clear hxk
      have keep : xk < m ∨ m ≤ xk → ∀ r : Int, (r = m ∧ m ≤ xk ∨ r = xk ∧ xk ≤ m) → r ∈ xs ∧ ∀ i (hi : i < xs.length), i < k + 1 → r ≤ xs[i] := by
        intro _ r hr
        have e := HXK.out
        subst e
        obtain ⟨hm1, hm2⟩ := HM.out
        refine ⟨?_, fun i hi h => ?_⟩
        · rcases hr with ⟨rfl, _⟩ | ⟨rfl, _⟩
          · exact hm1
          · exact List.getElem_mem hlt
        · by_cases e : i = k
          · subst e; omega
          · have := hm2 i hi (by omega); omega
      have KEEP := Lib.hid keep; clear keep
      go_wp2
      all_goals
        go_roundg (xs.length - (k + 1))
        case measure => omega
        case rel =>
          first
            | exact ⟨rfl, k + 1, m, by omega, by omega, by omega, by go_num, rfl, KEEP.out (by omega) m (.inl ⟨rfl, by omega⟩)⟩
            | exact ⟨rfl, k + 1, xk, by omega, by omega, by omega, by go_num, rfl, KEEP.out (by omega) xk (.inr ⟨rfl, by omega⟩)⟩
    · have hltz : ¬ (k : Int) < (xs.length : Int) := by omega
      go_wp2
      go_ret
      exact ⟨m, rfl, ⟨HM.out.1, fun x hx => by obtain ⟨i, hi, rfl⟩ := List.getElem_of_mem hx; exact HM.out.2 i hi (by omega)⟩, rfl⟩

def lowB (l : List Int) : Bool := l.any fun x => decide (x < -68719476736)
theorem tight1_any (A : Option Addr) (c : Nat) (xs : List Int) (w : World) (hs : RdS encI 1 w A xs) (hne : 0 < xs.length) :
    Calls Tryz.prog 135 (#[.slice A xs.length c] ++ #[]) w fun e w' => e = .returned (.bool (lowB xs)) ∧ Below w.heap.size w w' := by
  show Calls Tryz.prog 135 #[.slice A xs.length c] w _
  go_enter Tryz.func135, Tryz.ntmps135
  go_wp2_with (go_at_call 136; refine (min_any A c xs w hs hne).mono ?_; rintro e w' ⟨m, rfl, hm, rfl⟩)
  go_ret
  refine ⟨ret_bool ?_, Below.refl _ _⟩
  obtain ⟨h1, h2⟩ := hm.out
  unfold lowB
  rw [Bool.eq_iff_iff, List.any_eq_true]
  simp only [decide_eq_true_eq]
  exact ⟨fun h => ⟨m, h1, h⟩, fun ⟨x, hx, h⟩ => by have := h2 x hx; omega⟩
end Go.Proofs.YthilkphnjffnhaaGreat

/- A matrix of whole numbers in memory: an outer row of k inner rows of n cells each; kept, stored into, grown by a row. -/
namespace Go.Proofs.YthilkphnjffnhaaGreat
open Go.RowKit Go.Shelf

/-- a matrix with one place changed -/
def upd (M : Nat → Nat → Int) (i j : Nat) (x : Int) : Nat → Nat → Int := fun a b => if a = i ∧ b = j then x else M a b
theorem upd_same (M : Nat → Nat → Int) (i j : Nat) (x : Int) : upd M i j x i j = x := by simp [upd]
theorem upd_ne {M : Nat → Nat → Int} {i j a b : Nat} {x : Int} (h : ¬ (a = i ∧ b = j)) : upd M i j x a b = M a b := by simp only [upd]; rw [if_neg h]

structure Mat (w : World) (lo bm : Nat) (rb cp : Nat → Nat) (k n : Nat) (M : Nat → Nat → Int) : Prop where
  olo : lo ≤ bm
  olt : bm < w.heap.size
  outer : ∀ i, i < k → w.cell? ⟨bm, i, none⟩ = some (.slice (some ⟨rb i, 0, none⟩) n (cp i))
  ofz : ∀ i, w.frozen? ⟨bm, i, none⟩ = false
  rlo : ∀ i, i < k → lo ≤ rb i
  rlt : ∀ i, i < k → rb i < w.heap.size
  rne : ∀ i, i < k → rb i ≠ bm
  inj : ∀ i j, i < k → j < k → rb i = rb j → i = j
  row : ∀ i j, i < k → j < n → w.cell? ⟨rb i, j, none⟩ = some (.int .i64 (M i j))
  rfz : ∀ i j, i < k → w.frozen? ⟨rb i, j, none⟩ = false

section
variable {w w' : World} {lo bm : Nat} {rb cp : Nat → Nat} {k n : Nat} {M M' : Nat → Nat → Int}
theorem Mat.keep (h : Mat w lo bm rb cp k n M) (hs : w.heap.size ≤ w'.heap.size) (hb : ∀ b, b < w.heap.size → w'.heap[b]? = w.heap[b]?) : Mat w' lo bm rb cp k n M :=
  ⟨h.olo, by have := h.olt; omega, fun i hi => (World.cell?_of_block (w := w) (hb _ h.olt)).trans (h.outer i hi), fun i => (World.frozen?_of_block (w := w) (hb _ h.olt)).trans (h.ofz i),
   h.rlo, fun i hi => by have := h.rlt i hi; omega, h.rne, h.inj, fun i j hi hj => (World.cell?_of_block (w := w) (hb _ (h.rlt i hi))).trans (h.row i j hi hj),
   fun i j hi => (World.frozen?_of_block (w := w) (hb _ (h.rlt i hi))).trans (h.rfz i j hi)⟩
theorem Mat.below (h : Mat w lo bm rb cp k n M) (hb : Below w.heap.size w w') : Mat w' lo bm rb cp k n M := h.keep hb.size hb.block
theorem Mat.ext (h : Mat w lo bm rb cp k n M) (x : Xt) : Mat (w.ext x) lo bm rb cp k n M := h.below (below_ext w x)
theorem Mat.alloc (h : Mat w lo bm rb cp k n M) (o : Obj) : Mat (w.alloc o) lo bm rb cp k n M := h.below ((Below.refl _ _).alloc (Nat.le_refl _) _)
theorem Mat.drew (h : Mat w lo bm rb cp k n M) : Mat w.drew lo bm rb cp k n M := ⟨h.olo, h.olt, h.outer, h.ofz, h.rlo, h.rlt, h.rne, h.inj, h.row, h.rfz⟩
theorem Mat.congr (h : Mat w lo bm rb cp k n M) (e : ∀ i j, i < k → j < n → M i j = M' i j) : Mat w lo bm rb cp k n M' :=
  ⟨h.olo, h.olt, h.outer, h.ofz, h.rlo, h.rlt, h.rne, h.inj, fun i j hi hj => by rw [h.row i j hi hj, e i j hi hj], h.rfz⟩
/-- a store beside the matrix -/
theorem Mat.far (h : Mat w lo bm rb cp k n M) {p : Addr} (h1 : p.block ≠ bm) (h2 : ∀ i, i < k → p.block ≠ rb i) (u : Value) : Mat (w.setCell p u) lo bm rb cp k n M := by
  have hb : ∀ b, b ≠ p.block → (w.setCell p u).heap[b]? = w.heap[b]? := fun b hb => Below.heap_setCell w p u b hb
  have hs : (w.setCell p u).heap.size = w.heap.size := by simp [World.setCell]
  exact ⟨h.olo, by rw [hs]; exact h.olt, fun i hi => (World.cell?_of_block (w := w) (hb _ (Ne.symm h1))).trans (h.outer i hi), fun i => (World.frozen?_of_block (w := w) (hb _ (Ne.symm h1))).trans (h.ofz i),
   h.rlo, fun i hi => by rw [hs]; exact h.rlt i hi, h.rne, h.inj, fun i j hi hj => (World.cell?_of_block (w := w) (hb _ (Ne.symm (h2 i hi)))).trans (h.row i j hi hj),
   fun i j hi => (World.frozen?_of_block (w := w) (hb _ (Ne.symm (h2 i hi)))).trans (h.rfz i j hi)⟩
theorem setCell_frozen (w : World) (p q : Addr) (u : Value) : (w.setCell p u).frozen? q = w.frozen? q := by
  simp only [World.frozen?, World.setCell, Array.getElem?_modify]
  by_cases e : p.block = q.block
  · rw [if_pos e]
    cases h : w.heap[q.block]? with
    | none => simp
    | some o => cases o <;> simp
  · rw [if_neg e]
theorem Mat.set (h : Mat w lo bm rb cp k n M) {i j : Nat} (hi : i < k) (hj : j < n) (x : Int) : Mat (w.setCell ⟨rb i, j, none⟩ (.int .i64 x)) lo bm rb cp k n (upd M i j x) := by
  have hs : (w.setCell ⟨rb i, j, none⟩ (.int .i64 x)).heap.size = w.heap.size := by simp [World.setCell]
  refine ⟨h.olo, by rw [hs]; exact h.olt, fun a ha => ?_, fun a => by rw [setCell_frozen]; exact h.ofz a, h.rlo, fun a ha => by rw [hs]; exact h.rlt a ha, h.rne, h.inj, fun a b ha hb => ?_, fun a b ha => by rw [setCell_frozen]; exact h.rfz a b ha⟩
  · rw [World.cell?_setCell_other]
    · exact h.outer a ha
    · intro e; exact h.rne i hi (congrArg Addr.block e)
  · by_cases e : a = i ∧ b = j
    · obtain ⟨rfl, rfl⟩ := e
      rw [World.cell?_setCell_same w _ _ (h.row a b ha hb), upd_same]
    · rw [World.cell?_setCell_other, h.row a b ha hb, upd_ne e]
      intro e2
      injection e2 with e3 e4 _
      exact e ⟨(h.inj _ _ hi ha e3).symm, e4.symm⟩

/-- one row more -/
theorem Mat.growF (h : Mat w lo bm rb cp k n M) {g : Nat} {r : Nat → Int} (hlo : lo ≤ g) (hnew : ∀ i, i < k → g ≠ rb i) (hne : g ≠ bm) {v : Value} (hsome : w.cell? ⟨bm, k, none⟩ = some v) {c : Nat}
    (hg : g < w.heap.size) (hrow : ∀ j, j < n → w.cell? ⟨g, j, none⟩ = some (.int .i64 (r j))) (hfz : ∀ j, w.frozen? ⟨g, j, none⟩ = false) :
    Mat (w.setCell ⟨bm, k, none⟩ (.slice (some ⟨g, 0, none⟩) n c)) lo bm (fun i => if i = k then g else rb i) (fun i => if i = k then c else cp i) (k + 1) n (fun i j => if i = k then r j else M i j) := by
  have hs : (w.setCell ⟨bm, k, none⟩ (.slice (some ⟨g, 0, none⟩) n c)).heap.size = w.heap.size := by simp [World.setCell]
  have hoth : ∀ b j, b ≠ bm → (w.setCell ⟨bm, k, none⟩ (.slice (some ⟨g, 0, none⟩) n c)).cell? ⟨b, j, none⟩ = w.cell? ⟨b, j, none⟩ := fun b j hb =>
    World.cell?_setCell_other _ _ _ _ (fun e => hb (congrArg Addr.block e).symm)
  refine ⟨h.olo, by rw [hs]; exact h.olt, fun i hi => ?_, fun i => by rw [setCell_frozen]; exact h.ofz i, fun i hi => ?_, fun i hi => ?_, fun i hi => ?_, fun i j hi hj => ?_, fun i j hi hj => ?_, fun i j hi => ?_⟩
  · by_cases e : i = k
    · subst e
      simp only [if_true]
      exact World.cell?_setCell_same w _ _ hsome
    · simp only [if_neg e]
      rw [World.cell?_setCell_other _ _ _ _ (fun e2 => e (congrArg Addr.off e2).symm)]
      exact h.outer i (by omega)
  · by_cases e : i = k
    · simp only [if_pos e]; exact hlo
    · simp only [if_neg e]; exact h.rlo i (by omega)
  · rw [hs]
    by_cases e : i = k
    · simp only [if_pos e]; exact hg
    · simp only [if_neg e]; exact h.rlt i (by omega)
  · by_cases e : i = k
    · simp only [if_pos e]; exact hne
    · simp only [if_neg e]; exact h.rne i (by omega)
  · by_cases e : i = k <;> by_cases e' : j = k <;> simp only [e, e', if_true, if_false]
    · intro _; trivial
    · intro hh; exact absurd hh (hnew j (by omega))
    · intro hh; exact absurd hh.symm (hnew i (by omega))
    · exact h.inj i j (by omega) (by omega)
  · by_cases e : i = k
    · simp only [if_pos e]; rw [hoth _ _ hne]; exact hrow j hj
    · simp only [if_neg e]; rw [hoth _ _ (h.rne i (by omega))]; exact h.row i j (by omega) hj
  · rw [setCell_frozen]
    by_cases e : i = k
    · simp only [if_pos e]; exact hfz j
    · simp only [if_neg e]; exact h.rfz i j (by omega)

theorem Mat.grow (h : Mat w lo bm rb cp k n M) {g : Nat} {x : Int} (hlo : lo ≤ g) (hnew : ∀ i, i < k → g ≠ rb i) (hne : g ≠ bm) {v : Value} (hsome : w.cell? ⟨bm, k, none⟩ = some v) {c : Nat}
    (hg : g < w.heap.size) (hrow : ∀ j, j < n → w.cell? ⟨g, j, none⟩ = some (.int .i64 x)) (hfz : ∀ j, w.frozen? ⟨g, j, none⟩ = false) :
    Mat (w.setCell ⟨bm, k, none⟩ (.slice (some ⟨g, 0, none⟩) n c)) lo bm (fun i => if i = k then g else rb i) (fun i => if i = k then c else cp i) (k + 1) n (fun i j => if i = k then x else M i j) :=
  h.growF (r := fun _ => x) hlo hnew hne hsome hg hrow hfz

/-- the rows as elements of a list -/
theorem Mat.rows (h : Mat w lo bm rb cp k n M) (hk : k ≤ 1048576) : RdS Rw.enc 1 w (some ⟨bm, 0, none⟩) ((List.range k).map fun i => (⟨some ⟨rb i, 0, none⟩, cp i, (List.range n).map (M i)⟩ : Rw)) := by
  refine ⟨by simp; omega, fun i x hx => ?_⟩
  rw [List.getElem?_map] at hx
  by_cases hi : i < k
  · rw [List.getElem?_range hi] at hx
    cases hx
    refine ⟨bm, 0, rfl, h.olt, fun j u hu => ?_⟩
    cases j with
    | zero =>
      simp [Rw.enc] at hu
      subst hu
      simpa using h.outer i hi
    | succ j => simp [Rw.enc] at hu
  · rw [List.getElem?_eq_none (by simpa using hi)] at hx
    cases hx
theorem Mat.rowRd (h : Mat w lo bm rb cp k n M) (hn : n ≤ 1048576) {i : Nat} (hi : i < k) : RdS encI 1 w (some ⟨rb i, 0, none⟩) ((List.range n).map (M i)) := by
  refine ⟨by simp; omega, fun j x hx => ?_⟩
  rw [List.getElem?_map] at hx
  by_cases hj : j < n
  · rw [List.getElem?_range hj] at hx
    cases hx
    refine ⟨rb i, 0, rfl, h.rlt i hi, fun a u hu => ?_⟩
    cases a with
    | zero =>
      simp [encI] at hu
      subst hu
      simpa using h.row i j hi hj
    | succ a => simp [encI] at hu
  · rw [List.getElem?_eq_none (by simpa using hj)] at hx
    cases hx
end
end Go.Proofs.YthilkphnjffnhaaGreat

/- What bounds.tight computes, said of functions on numbers, and the bounds of what it holds on the way. -/
namespace Go.Proofs.YthilkphnjffnhaaGreat

abbrev Mx := Nat → Nat → Int
/-- f 0, f 1, .. in turn -/
def iter {S : Type} (f : Nat → S → S) : Nat → S → S
  | 0, s => s
  | m + 1, s => f m (iter f m s)

def noneD : Int := 4398046511104
def lowD : Int := -68719476736
def initM : Mx := fun i j => if i = j then 0 else 4398046511104
def addB (M : Mx) (b : Bd) : Mx := upd M b.i.toNat b.j.toNat (min (M b.i.toNat b.j.toNat) b.m)
def addAll (l : List Bd) : Mx := l.foldl addB initM
def relax1 (k i j : Nat) (M : Mx) : Mx := upd M i j (min (M i j) (plusD (M i k) (M k j)))
def relaxR (n k i : Nat) (M : Mx) : Mx := iter (relax1 k i) n M
def relaxK (n k : Nat) (M : Mx) : Mx := iter (relaxR n k) n M
def rowsOf (n : Nat) (M : Mx) : List (List Int) := (List.range n).map fun i => (List.range n).map (M i)
def lowM (n : Nat) (M : Mx) : Bool := (rowsOf n M).any lowB
/-- the rounds; none: a row is too low -/
def fw (n : Nat) : Nat → Mx → Option Mx
  | 0, M => some M
  | k + 1, M => (fw n k M).bind fun M' => if lowM n (relaxK n k M') then none else some (relaxK n k M')
def diagB (n : Nat) (M : Mx) : Bool := (List.range n).any fun i => decide (M i i < 0)
def tightF (n : Nat) (l : List Bd) : Option Mx := (fw n n (addAll l)).bind fun M => if diagB n M then none else some M

/-! what is held on the way stays within bounds -/
def InB (n : Nat) (M : Mx) : Prop := ∀ a b, a < n → b < n → -68719476736 ≤ M a b ∧ M a b ≤ 4398046511104
theorem lowM_no {n : Nat} {M : Mx} (h : lowM n M = false) : ∀ a b, a < n → b < n → -68719476736 ≤ M a b := by
  intro a b ha hb
  unfold lowM rowsOf lowB at h
  rw [List.any_eq_false] at h
  have h1 := h ((List.range n).map (M a)) (List.mem_map.2 ⟨a, List.mem_range.2 ha, rfl⟩)
  have h1' : ((List.range n).map (M a)).any (fun x => decide (x < -68719476736)) = false := by simpa using h1
  rw [List.any_eq_false] at h1'
  have h2 := h1' (M a b) (List.mem_map.2 ⟨b, List.mem_range.2 hb, rfl⟩)
  simp at h2
  omega
theorem lowM_yes {n : Nat} {M : Mx} (h : lowM n M = true) : ∃ a b, a < n ∧ b < n ∧ M a b < -68719476736 := by
  unfold lowM rowsOf lowB at h
  rw [List.any_eq_true] at h
  obtain ⟨r, hr, h⟩ := h
  obtain ⟨a, ha, rfl⟩ := List.mem_map.1 hr
  rw [List.any_eq_true] at h
  obtain ⟨x, hx, h⟩ := h
  obtain ⟨b, hb, rfl⟩ := List.mem_map.1 hx
  exact ⟨a, b, List.mem_range.1 ha, List.mem_range.1 hb, by simpa using h⟩

theorem plusD_ge {a b L : Int} (ha : -L ≤ a) (hb : 0 ≤ L) (B : Int) (hB : -B ≤ b) (hB0 : 0 ≤ B) (hL : L + B ≤ 4398046511104) : -(L + B) ≤ plusD a b := by
  unfold plusD; split <;> omega

/-- within round k, ahead of place (i, j): bounds for each place -/
structure Within (n k i j : Nat) (M : Mx) : Prop where
  up : ∀ a b, a < n → b < n → M a b ≤ 4398046511104
  fresh : ∀ a b, a < n → b < n → (i < a ∨ (a = i ∧ j ≤ b)) → -68719476736 ≤ M a b
  kk : -137438953472 ≤ M k k
  col : ∀ a, a < n → -206158430208 ≤ M a k
  row : ∀ b, b < n → -206158430208 ≤ M k b
  all : ∀ a b, a < n → b < n → -412316860416 ≤ M a b

theorem Within.start {n k : Nat} {M : Mx} (h : InB n M) (hk : k < n) : Within n k 0 0 M :=
  ⟨fun a b ha hb => (h a b ha hb).2, fun a b ha hb _ => (h a b ha hb).1, by have := (h k k hk hk).1; omega,
   fun a ha => by have := (h a k ha hk).1; omega, fun b hb => by have := (h k b hk hb).1; omega, fun a b ha hb => by have := (h a b ha hb).1; omega⟩
theorem Within.step {n k i j : Nat} {M : Mx} (h : Within n k i j M) (hk : k < n) (hi : i < n) (hj : j < n) : Within n k i (j + 1) (relax1 k i j M) := by
  have hx : relax1 k i j M = upd M i j (min (M i j) (plusD (M i k) (M k j))) := rfl
  have hij := h.fresh i j hi hj (by omega)
  have hup := h.up i j hi hj
  have h1 := h.col i hi
  have h2 := h.row j hj
  have h3 : -412316860416 ≤ plusD (M i k) (M k j) := by unfold plusD; split <;> omega
  have h4 : i = k → -206158430208 ≤ plusD (M i k) (M k j) := by
    rintro rfl
    have := h.kk
    unfold plusD; split <;> omega
  have h5 : j = k → -206158430208 ≤ plusD (M i k) (M k j) := by
    rintro rfl
    have := h.kk
    unfold plusD; split <;> omega
  have h6 : i = k → j = k → -137438953472 ≤ plusD (M i k) (M k j) := by
    rintro rfl rfl
    unfold plusD; split <;> omega
  rw [hx]
  generalize plusD (M i k) (M k j) = p at *
  refine ⟨fun a b ha hb => ?_, fun a b ha hb hab => ?_, ?_, fun a ha => ?_, fun b hb => ?_, fun a b ha hb => ?_⟩
  all_goals simp only [upd]
  · have := h.up a b ha hb; split <;> omega
  · have := h.fresh a b ha hb (by omega); split <;> omega
  · have := h.kk; split <;> omega
  · have := h.col a ha; split <;> omega
  · have := h.row b hb; split <;> omega
  · have := h.all a b ha hb; split <;> omega
theorem Within.next {n k i : Nat} {M : Mx} (h : Within n k i n M) : Within n k (i + 1) 0 M :=
  ⟨h.up, fun a b ha hb hab => h.fresh a b ha hb (by omega), h.kk, h.col, h.row, h.all⟩
theorem Within.iterR {n k i : Nat} {M : Mx} (h : Within n k i 0 M) (hk : k < n) (hi : i < n) : ∀ j, j ≤ n → Within n k i j (iter (relax1 k i) j M)
  | 0, _ => h
  | j + 1, hj => (Within.iterR h hk hi j (by omega)).step hk hi (by omega)
theorem Within.iterK {n k : Nat} {M : Mx} (h : Within n k 0 0 M) (hk : k < n) : ∀ i, i ≤ n → Within n k i 0 (iter (relaxR n k) i M)
  | 0, _ => h
  | i + 1, hi => ((Within.iterK h hk i (by omega)).iterR hk (by omega) n (Nat.le_refl _)).next
theorem InB.after {n k : Nat} {M : Mx} (h : InB n M) (hk : k < n) (hl : lowM n (relaxK n k M) = false) : InB n (relaxK n k M) :=
  fun a b ha hb => ⟨lowM_no hl a b ha hb, ((Within.start h hk).iterK hk n (Nat.le_refl _)).up a b ha hb⟩
theorem initM_in (n : Nat) : InB n initM := fun a b _ _ => by unfold initM; split <;> omega
theorem addB_in {n : Nat} {M : Mx} (h : InB n M) {b : Bd} (hb : rightB n b = true) : InB n (addB M b) := by
  have := rightB_iff.1 hb
  intro a c ha hc
  have h1 := h a c ha hc
  have h2 := h b.i.toNat b.j.toNat (by omega) (by omega)
  simp only [addB, upd]
  split <;> omega
theorem addAll_in {n : Nat} {l : List Bd} (h : ∀ b ∈ l, rightB n b = true) : InB n (addAll l) := by
  unfold addAll
  have : ∀ (l : List Bd) (M : Mx), InB n M → (∀ b ∈ l, rightB n b = true) → InB n (l.foldl addB M) := by
    intro l
    induction l with
    | nil => intro M hM _; exact hM
    | cons b l ih => intro M hM hl; exact ih _ (addB_in hM (hl b (List.mem_cons_self ..))) (fun c hc => hl c (List.mem_cons_of_mem _ hc))
  exact this l _ (initM_in n) h
theorem fw_in {n : Nat} {M : Mx} (h : InB n M) : ∀ k, k ≤ n → ∀ M', fw n k M = some M' → InB n M'
  | 0, _, M', e => by cases e; exact h
  | k + 1, hk, M', e => by
    simp only [fw] at e
    cases e1 : fw n k M with
    | none => rw [e1] at e; cases e
    | some M1 =>
      rw [e1] at e
      simp only [Option.bind_some] at e
      cases e2 : lowM n (relaxK n k M1) with
      | true => rw [e2] at e; cases e
      | false =>
        rw [e2] at e
        cases e
        exact (fw_in h k (by omega) M1 e1).after (by omega) e2
end Go.Proofs.YthilkphnjffnhaaGreat

/- Walks in a network of bounds: shortening; what tightF answers, said of walks. -/
namespace Go.Proofs.YthilkphnjffnhaaGreat

/-- of more than n numbers below n two are the same -/
theorem pigeon : ∀ (n m : Nat) (v : Nat → Nat), n < m → (∀ i, i < m → v i < n) → ∃ i j, i < j ∧ j < m ∧ v i = v j
  | 0, m, v, h, hv => absurd (hv 0 (by omega)) (by omega)
  | n + 1, m, v, h, hv => by
    -- the places of n
    by_cases h1 : ∃ i, i < m ∧ v i = n
    · obtain ⟨i, hi, e⟩ := h1
      by_cases h2 : ∃ j, j < m ∧ j ≠ i ∧ v j = n
      · obtain ⟨j, hj, hne, e2⟩ := h2
        by_cases hlt : i < j
        · exact ⟨i, j, hlt, hj, by rw [e, e2]⟩
        · exact ⟨j, i, by omega, hi, by rw [e, e2]⟩
      · obtain ⟨a, b, hab, hb, hv2⟩ := pigeon n (m - 1) (fun k => if k < i then v k else v (k + 1)) (by omega) (fun k hk => by
          show (if k < i then v k else v (k + 1)) < n
          split
          · rename_i hki
            have := hv k (by omega)
            have : v k ≠ n := fun e3 => h2 ⟨k, by omega, by omega, e3⟩
            omega
          · have := hv (k + 1) (by omega)
            have : v (k + 1) ≠ n := fun e3 => h2 ⟨k + 1, by omega, by omega, e3⟩
            omega)
        refine ⟨if a < i then a else a + 1, if b < i then b else b + 1, ?_, ?_, ?_⟩
        · split <;> split <;> omega
        · split <;> omega
        · by_cases p : a < i <;> by_cases q : b < i
          · rw [if_pos p, if_pos q] at hv2 ⊢; exact hv2
          · rw [if_pos p, if_neg q] at hv2 ⊢; exact hv2
          · rw [if_neg p, if_pos q] at hv2 ⊢; exact hv2
          · rw [if_neg p, if_neg q] at hv2 ⊢; exact hv2
    · obtain ⟨a, b, hab, hb, hv2⟩ := pigeon n m v (by omega) (fun k hk => by
        have := hv k hk
        have : v k ≠ n := fun e => h1 ⟨k, hk, e⟩
        omega)
      exact ⟨a, b, hab, hb, hv2⟩

/-- a walk: from, to, how many bounds, their sum -/
inductive Wk (E : Nat → Nat → Int → Prop) : Nat → Nat → Nat → Int → Prop
  | nil (a : Nat) : Wk E a a 0 0
  | cons {a b c k : Nat} {w W : Int} : E a b w → Wk E b c k W → Wk E a c (k + 1) (w + W)

section
variable {E : Nat → Nat → Int → Prop}
theorem Wk.cast {a b k k' : Nat} {W W' : Int} (h : Wk E a b k W) (hk : k = k') (hW : W = W') : Wk E a b k' W' := by subst hk hW; exact h
theorem Wk.one {a b : Nat} {w : Int} (h : E a b w) : Wk E a b 1 w := (Wk.cons h (Wk.nil b)).cast rfl (by omega)
theorem Wk.trans {a b c k m : Nat} {W V : Int} (h : Wk E a b k W) (h2 : Wk E b c m V) : Wk E a c (k + m) (W + V) := by
  induction h with
  | nil a => exact h2.cast (by omega) (by omega)
  | cons he _ ih => exact (Wk.cons he (ih h2)).cast (by omega) (by omega)
theorem Wk.mono {E' : Nat → Nat → Int → Prop} {a b k : Nat} {W : Int} (h : Wk E a b k W) (he : ∀ a b w, E a b w → E' a b w) : Wk E' a b k W := by
  induction h with
  | nil a => exact Wk.nil a
  | cons h1 _ ih => exact Wk.cons (he _ _ _ h1) ih
theorem Wk.map {E' : Nat → Nat → Int → Prop} {a b k : Nat} {W : Int} (f : Nat → Nat) (h : Wk E a b k W) (he : ∀ a b w, E a b w → E' (f a) (f b) w) : Wk E' (f a) (f b) k W := by
  induction h with
  | nil a => exact Wk.nil _
  | cons h1 _ ih => exact Wk.cons (he _ _ _ h1) ih
theorem Wk.rev {E' : Nat → Nat → Int → Prop} {a b k : Nat} {W : Int} (h : Wk E a b k W) (he : ∀ a b w, E a b w → E' b a w) : Wk E' b a k W := by
  induction h with
  | nil a => exact Wk.nil _
  | cons h1 _ ih => exact (ih.trans (Wk.one (he _ _ _ h1))).cast rfl (by omega)
/-- a walk, place by place -/
theorem Wk.places {a b k : Nat} {W : Int} (h : Wk E a b k W) : ∃ (v : Nat → Nat) (s : Nat → Int), v 0 = a ∧ v k = b ∧ s 0 = 0 ∧ s k = W ∧ ∀ i, i < k → E (v i) (v (i + 1)) (s (i + 1) - s i) := by
  induction h with
  | nil a => exact ⟨fun _ => a, fun _ => 0, rfl, rfl, rfl, rfl, fun i hi => absurd hi (Nat.not_lt_zero _)⟩
  | @cons a b c k w W he _ ih =>
    obtain ⟨v, s, h1, h2, h3, h4, h5⟩ := ih
    refine ⟨fun i => if i = 0 then a else v (i - 1), fun i => if i = 0 then 0 else w + s (i - 1), rfl, ?_, rfl, ?_, fun i hi => ?_⟩
    · show (if k + 1 = 0 then a else v (k + 1 - 1)) = c
      rw [if_neg (by omega), Nat.add_sub_cancel]; exact h2
    · show (if k + 1 = 0 then (0 : Int) else w + s (k + 1 - 1)) = w + W
      rw [if_neg (by omega), Nat.add_sub_cancel, h4]
    · cases i with
      | zero =>
        simp only [if_true, if_neg (show ¬ 0 + 1 = 0 by omega), Nat.zero_add, Nat.sub_self]
        rw [h1, h3]
        rw [show w + 0 - 0 = w by omega]
        exact he
      | succ i =>
        have := h5 i (by omega)
        simp only [if_neg (show ¬ i + 1 = 0 by omega), if_neg (show ¬ i + 1 + 1 = 0 by omega), Nat.add_sub_cancel]
        rw [show w + s (i + 1) - (w + s i) = s (i + 1) - s i by omega]
        exact this
theorem Wk.between {v : Nat → Nat} {s : Nat → Int} {k : Nat} (h : ∀ i, i < k → E (v i) (v (i + 1)) (s (i + 1) - s i)) : ∀ (d i : Nat), i + d ≤ k → Wk E (v i) (v (i + d)) d (s (i + d) - s i)
  | 0, i, _ => (Wk.nil (v i)).cast rfl (by rw [Nat.add_zero]; omega)
  | d + 1, i, hd => ((Wk.between h d i (by omega)).trans (Wk.one (h (i + d) (by omega)))).cast rfl (by rw [show i + (d + 1) = i + d + 1 by omega]; omega)
/-- no closed walk is below 0 -/
def NoNeg (E : Nat → Nat → Int → Prop) : Prop := ∀ a k W, Wk E a a k W → 0 ≤ W
theorem Wk.shorter {n : Nat} (hE : ∀ a b w, E a b w → a < n ∧ b < n) (hn : NoNeg E) {a b k : Nat} {W : Int} (h : Wk E a b k W) (hk : n ≤ k) (ha : a < n) : ∃ k' W', k' < k ∧ W' ≤ W ∧ Wk E a b k' W' := by
  obtain ⟨v, s, h1, h2, h3, h4, h5⟩ := h.places
  obtain ⟨i, j, hij, hj, e⟩ := pigeon n (k + 1) v (by omega) (fun i hi => by
    cases i with
    | zero => rw [h1]; exact ha
    | succ i => exact (hE _ _ _ (h5 i (by omega))).2)
  have w1 := Wk.between h5 i 0 (by omega)
  have w2 := Wk.between h5 (j - i) i (by omega)
  have w3 := Wk.between h5 (k - j) j (by omega)
  rw [Nat.zero_add, h1, h3] at w1
  rw [show i + (j - i) = j by omega, ← e] at w2
  rw [show j + (k - j) = k by omega, h2, h4, ← e] at w3
  have := hn _ _ _ w2
  exact ⟨i + (k - j), _, by omega, by omega, w1.trans w3⟩
theorem Wk.short {n : Nat} (hE : ∀ a b w, E a b w → a < n ∧ b < n) (hn : NoNeg E) {a b : Nat} (ha : a < n) : ∀ (k : Nat) (W : Int), Wk E a b k W → ∃ k' W', k' < n ∧ W' ≤ W ∧ Wk E a b k' W' := by
  intro k
  induction k using Nat.strongRecOn with
  | _ k ih =>
    intro W h
    by_cases hk : k < n
    · exact ⟨k, W, hk, Int.le_refl _, h⟩
    · obtain ⟨k1, W1, h1, h2, h3⟩ := h.shorter hE hn (by omega) ha
      obtain ⟨k2, W2, h4, h5, h6⟩ := ih k1 h1 W1 h3
      exact ⟨k2, W2, h4, by omega, h6⟩
theorem Wk.bound {B : Int} (hB : 0 ≤ B) (hE : ∀ a b w, E a b w → -B ≤ w ∧ w ≤ B) {a b k : Nat} {W : Int} (h : Wk E a b k W) : -(B * k) ≤ W ∧ W ≤ B * k := by
  induction h with
  | nil a => simp
  | @cons a b c k w W he _ ih =>
    have := hE _ _ _ he
    have e : B * ((k + 1 : Nat) : Int) = B * k + B := by push_cast; rw [Int.mul_add]; omega
    rw [e]; omega
end

/-- the bounds of a network as steps -/
def EdB (l : List Bd) (a b : Nat) (w : Int) : Prop := ∃ x ∈ l, x.i = a ∧ x.j = b ∧ x.m = w
theorem EdB.lt {n : Nat} {l : List Bd} (h : ∀ b ∈ l, rightB n b = true) {a b : Nat} {w : Int} (he : EdB l a b w) : a < n ∧ b < n := by
  obtain ⟨x, hx, h1, h2, _⟩ := he
  have := rightB_iff.1 (h x hx)
  omega
theorem EdB.size {n : Nat} {l : List Bd} (h : ∀ b ∈ l, rightB n b = true) {a b : Nat} {w : Int} (he : EdB l a b w) : -1073741824 ≤ w ∧ w ≤ 1073741824 := by
  obtain ⟨x, hx, _, _, h3⟩ := he
  have := rightB_iff.1 (h x hx)
  omega

/-- each entry below none is the sum of a walk -/
def Sound (E : Nat → Nat → Int → Prop) (n : Nat) (M : Mx) : Prop := ∀ a b, a < n → b < n → M a b ≠ 4398046511104 → ∃ k, Wk E a b k (M a b)
theorem sound_init (E : Nat → Nat → Int → Prop) (n : Nat) : Sound E n initM := by
  intro a b _ _ h
  unfold initM at h ⊢
  split
  · rename_i e; subst e; exact ⟨0, Wk.nil a⟩
  · rename_i e; rw [if_neg e] at h; exact absurd rfl h
theorem sound_relax1 {E : Nat → Nat → Int → Prop} {n : Nat} {M : Mx} (h : Sound E n M) {k i j : Nat} (hk : k < n) (hi : i < n) (hj : j < n) : Sound E n (relax1 k i j M) := by
  intro a b ha hb hne
  unfold relax1 upd at hne ⊢
  by_cases hab : a = i ∧ b = j
  · obtain ⟨rfl, rfl⟩ := hab
    simp only [and_self, if_true] at hne ⊢
    by_cases hle : M a b ≤ plusD (M a k) (M k b)
    · rw [Int.min_eq_left hle] at hne ⊢
      exact h a b ha hb hne
    · rw [Int.min_eq_right (by omega)] at hne ⊢
      unfold plusD at hne ⊢
      split
      · rename_i h0; rw [if_pos h0] at hne; exact absurd rfl hne
      · rename_i h0
        obtain ⟨k1, w1⟩ := h a k ha hk (fun e => h0 (.inl e))
        obtain ⟨k2, w2⟩ := h k b hk hb (fun e => h0 (.inr e))
        exact ⟨_, w1.trans w2⟩
  · rw [if_neg hab] at hne ⊢
    exact h a b ha hb hne
end Go.Proofs.YthilkphnjffnhaaGreat
