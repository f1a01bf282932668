/- bounds.closed answers true of a closed matrix; bounds.Add makes the matrix with a bound more. -/
import Derived.Test.YthilkphnjffnhaaGreatTgt
import Derived.Test.YthilkphnjffnhaaGreatCln
set_option linter.unusedSimpArgs false
set_option linter.unusedVariables false
namespace Go.Proofs.YthilkphnjffnhaaGreat
open Go.RowKit Go.Shelf

def badD (x : Int) : Bool := decide (x ≠ 4398046511104 ∧ (x < -68719476736 ∨ 68719476736 < x))
theorem closed1_any (x : Int) (w : World) : Calls Tryz.prog 138 (#[valI x] ++ #[]) w fun e w' => e = .returned (.bool (badD x)) ∧ Below w.heap.size w w' := by
  show Calls Tryz.prog 138 #[.int .i64 x] w _
  by_cases h1 : x = 4398046511104
  · have hb := Lib.hid (show badD x = false by simp [badD, h1])
    have h1' : (x != 4398046511104) = false := by simp [h1]
    clear h1
    go_enter Tryz.func138, Tryz.ntmps138
    go_wp2
    go_ret
    exact ⟨ret_bool hb.out.symm, Below.refl _ _⟩
  · have h1' : (x != 4398046511104) = true := by simp [h1]
    by_cases h2 : x < -68719476736
    · have hb := Lib.hid (show badD x = true by simp [badD, h1, h2])
      clear h1
      go_enter Tryz.func138, Tryz.ntmps138
      go_wp2
      go_ret
      exact ⟨ret_bool hb.out.symm, Below.refl _ _⟩
    · by_cases h3 : 68719476736 < x
      · have hb := Lib.hid (show badD x = true by simp [badD, h1, h3])
        clear h1
        go_enter Tryz.func138, Tryz.ntmps138
        go_wp2
        go_ret
        exact ⟨ret_bool hb.out.symm, Below.refl _ _⟩
      · have hb := Lib.hid (show badD x = false by simp [badD]; omega)
        clear h1
        go_enter Tryz.func138, Tryz.ntmps138
        go_wp2
        go_ret
        exact ⟨ret_bool hb.out.symm, Below.refl _ _⟩

structure ClosedM (n : Nat) (M : Mx) : Prop where
  diag : ∀ i, i < n → M i i = 0
  size : ∀ i j, i < n → j < n → M i j = 4398046511104 ∨ (-68719476736 ≤ M i j ∧ M i j ≤ 68719476736)
  tri : ∀ i j k, i < n → j < n → k < n → M i k ≤ plusD (M i j) (M j k)

theorem row_ok {wr : World} {lo bm n : Nat} {rb cp : Nat → Nat} {M : Mx} (h : Mat wr lo bm rb cp n n M) (hn : n ≤ 24) (hc : ClosedM n M) {i : Nat} (hi : i < n) (c : Nat) :
    Calls Tryz.prog 137 #[.slice (some ⟨rb i, 0, none⟩) n c, .func (.func 138) #[] #[]] wr fun e w' => e = .returned (.bool false) ∧ Below wr.heap.size wr w' := by
  have := containsFunc137 138 #[] (enters_of Tryz.func138 (by kernel_rfl) rfl) badD (some ⟨rb i, 0, none⟩) c _ wr (h.rowRd (by omega) hi) (fun x _ W _ => closed1_any x W)
  rw [List.length_map, List.length_range] at this
  refine this.mono ?_
  rintro e w' ⟨rfl, hb⟩
  refine ⟨ret_bool ?_, hb⟩
  rw [List.any_eq_false]
  intro x hx
  obtain ⟨j, hj, rfl⟩ := List.mem_map.1 hx
  have := hc.size i j hi (List.mem_range.1 hj)
  simp [badD]; omega

set_option maxRecDepth 100000 in
set_option maxHeartbeats 4000000 in
theorem closed_yes (lo bm n c : Nat) (rb cp : Nat → Nat) (M : Mx) (w : World) (h : Mat w lo bm rb cp n n M) (hn1 : 1 ≤ n) (hn : n ≤ 24) (hc : ClosedM n M) :
    Calls Tryz.prog 71 #[.slice (some ⟨bm, 0, none⟩) n c] w fun e w' => e = .returned (.bool true) ∧ Below w.heap.size w w' := by
  have H := Lib.hid h; clear h
  have HC := Lib.hid hc; clear hc
  have hn1' : ¬ (n : Int) < 1 := by omega
  have hn2' : ¬ (24 : Int) < (n : Int) := by omega
  have hn0 : (0 : Int) ≤ (n : Int) := by omega
  go_enter Tryz.func71, Tryz.ntmps71
  go_wp2
  go_loopg [19] n (fun gg s19 wr => ∃ k : Nat, k ≤ n ∧ n - k ≤ gg ∧ s19 = .int .i64 k ∧ Aside (Below w.heap.size w wr))
  case atStart => exact ⟨0, Nat.zero_le _, by omega, rfl, Below.refl _ _⟩
  case round =>
    obtain ⟨k, hk, hg, rfl, HB⟩ := hrel
    by_cases hlt : k < n
    · have hltz : (k : Int) < (n : Int) := by omega
      have HM := H.out.below HB.out
      have o1 := HM.outer k hlt
      have r1 := HM.row k k hlt hlt
      rw [HC.out.diag k hlt] at r1
      have hrow := row_ok HM hn HC.out hlt (cp k)
      clear HM
      go_wp2_with (go_at_call 137; refine hrow.mono ?_; rintro e w' ⟨rfl, hb'⟩)
      go_roundg (n - (k + 1))
      case measure => omega
      case rel => exact ⟨k + 1, by omega, by omega, by go_num, HB.out.trans (hb'.mono HB.out.size)⟩
    · have hltz : ¬ (k : Int) < (n : Int) := by omega
      obtain rfl : n = k := by omega
      obtain ⟨w1, rfl⟩ : ∃ w1 : World, w1 = wr := ⟨_, rfl⟩
      have HB1 := HB; clear HB
      go_wp2
      go_loopg [41] n (fun gg s41 wr => ∃ i : Nat, i ≤ n ∧ n - i ≤ gg ∧ s41 = .int .i64 i ∧ Aside (Below w.heap.size w wr))
      case atStart => exact ⟨0, Nat.zero_le _, by omega, rfl, HB1.out⟩
      case round =>
        obtain ⟨i, hi, hg2, rfl, HB2⟩ := hrel
        clear HB1
        by_cases hlti : i < n
        · have hltiz : (i : Int) < (n : Int) := by omega
          obtain ⟨w2, rfl⟩ : ∃ w2 : World, w2 = wr := ⟨_, rfl⟩
          go_wp2
          go_loopg [45] n (fun gg s45 wr => ∃ j : Nat, j ≤ n ∧ n - j ≤ gg ∧ s45 = .int .i64 j ∧ Aside (Below w.heap.size w wr))
          case atStart => exact ⟨0, Nat.zero_le _, by omega, rfl, HB2.out⟩
          case round =>
            obtain ⟨j, hj, hg3, rfl, HB3⟩ := hrel
            clear HB2
            by_cases hltj : j < n
            · have hltjz : (j : Int) < (n : Int) := by omega
              obtain ⟨w3, rfl⟩ : ∃ w3 : World, w3 = wr := ⟨_, rfl⟩
              go_wp2
              go_loopg [49] n (fun gg s49 wr => ∃ k : Nat, k ≤ n ∧ n - k ≤ gg ∧ s49 = .int .i64 k ∧ Aside (Below w.heap.size w wr))
              case atStart => exact ⟨0, Nat.zero_le _, by omega, rfl, HB3.out⟩
              case round =>
                obtain ⟨k, hk4, hg4, rfl, HB4⟩ := hrel
                clear HB3
                by_cases hltk : k < n
                · have hltkz : (k : Int) < (n : Int) := by omega
                  have HM := H.out.below HB4.out
                  have o1 := HM.outer i hlti
                  have o2 := HM.outer j hltj
                  have r1 := HM.row i k hlti hltk
                  have r2 := HM.row i j hlti hltj
                  have r3 := HM.row j k hltj hltk
                  have s1 := HC.out.size i j hlti hltj
                  have s2 := HC.out.size j k hltj hltk
                  have tri := HC.out.tri i j k hlti hltj hltk
                  have l1 := HM.olt
                  have l2 := HM.rlt i hlti
                  have l3 := HM.rlt j hltj
                  have b1 : -1125899906842624 ≤ M i j := by omega
                  have b2 : M i j ≤ 1125899906842624 := by omega
                  have b3 : -1125899906842624 ≤ M j k := by omega
                  have b4 : M j k ≤ 1125899906842624 := by omega
                  have hnot : ¬ plusD (M i j) (M j k) < M i k := by omega
                  clear HM s1 s2 tri
                  go_wp2
                  refine wp_region_ext (by kernel_rfl) (by kernel_rfl) ?_
                  repeat (refine wpQuiet_step (fun K hK => ?_); go_simp; first | (refine hK _ ?_; clear hK K) | (apply Exists.intro; refine ⟨fun _ => ?_, hK _ ?_⟩; (exact calls_ext_same (plus_any _ _ _ (by omega) (by omega) (by omega) (by omega))); clear hK K))
                  refine wpQuiet_nil ?_
                  intro x0
                  go_wp2
                  go_roundg (n - (k + 1))
                  case measure => omega
                  case rel => exact ⟨k + 1, by omega, by omega, by go_num, HB4.out.trans ((below_ext _ x0).mono HB4.out.size)⟩
                · have hltkz : ¬ (k : Int) < (n : Int) := by omega
                  go_wp2
                  go_roundg (n - (j + 1))
                  case measure => omega
                  case rel => exact ⟨j + 1, by omega, by omega, by go_num, HB4⟩
            · have hltjz : ¬ (j : Int) < (n : Int) := by omega
              go_wp2
              go_roundg (n - (i + 1))
              case measure => omega
              case rel => exact ⟨i + 1, by omega, by omega, by go_num, HB3⟩
        · have hltiz : ¬ (i : Int) < (n : Int) := by omega
          go_wp2
          go_ret
          exact ⟨rfl, HB2.out⟩
end Go.Proofs.YthilkphnjffnhaaGreat

/- bounds.Add of a closed matrix. -/
namespace Go.Proofs.YthilkphnjffnhaaGreat
open Go.RowKit Go.Shelf

/-- the matrix with a bound more -/
def addM (M : Mx) (b : Bd) : Mx := fun i j => min (M i j) (plusD (plusD (M i b.i.toNat) b.m) (M b.j.toNat j))

section
variable {lo bm n c : Nat} {rb cp : Nat → Nat} {M : Mx} {w : World} {b : Bd}
theorem right_yes (hb : rightB n b = true) (w : World) : Calls Tryz.prog 69 #[.int .i64 n, b.val] w fun e w' => e = .returned (.bool true) ∧ Below w.heap.size w w' := by
  have := right_any n b w
  rwa [hb] at this

/-- ahead of row k of the new matrix, place j of it -/
def AddAt (w wr : World) (bo n k : Nat) (N : Mx) (k' : Nat) : Prop :=
  Below w.heap.size w wr ∧ (∃ rb cp, Mat wr w.heap.size bo rb cp k n N) ∧ ∀ i, k' ≤ i → i < n → wr.cell? ⟨bo, i, none⟩ = some (.slice none 0 0)

/-- up to the test -/
def BoxAt (w w2 : World) (i j : Nat) (bw : Int) : Prop := Below (w.alloc (.cells #[.int .i64 i, .int .i64 j, .int .i64 bw] 29)).heap.size (w.alloc (.cells #[.int .i64 i, .int .i64 j, .int .i64 bw] 29)) w2
theorem BoxAt.below {w w2 : World} {i j : Nat} {bw : Int} (h : BoxAt w w2 i j bw) : Below w.heap.size w w2 := ((Below.refl _ _).alloc (Nat.le_refl _) _).trans (Below.mono h (by simp))
theorem BoxAt.c0 {w w2 : World} {i j : Nat} {bw : Int} (h : BoxAt w w2 i j bw) : w2.cell? ⟨w.heap.size, 0, none⟩ = some (.int .i64 i) := (Below.cell h (p := ⟨w.heap.size, 0, none⟩) (by simp)).trans (by simp)
theorem BoxAt.c1 {w w2 : World} {i j : Nat} {bw : Int} (h : BoxAt w w2 i j bw) : w2.cell? ⟨w.heap.size, 1, none⟩ = some (.int .i64 j) := (Below.cell h (p := ⟨w.heap.size, 1, none⟩) (by simp)).trans (by simp)
theorem BoxAt.c2 {w w2 : World} {i j : Nat} {bw : Int} (h : BoxAt w w2 i j bw) : w2.cell? ⟨w.heap.size, 2, none⟩ = some (.int .i64 bw) := (Below.cell h (p := ⟨w.heap.size, 2, none⟩) (by simp)).trans (by simp)
theorem BoxAt.lt {w w2 : World} {i j : Nat} {bw : Int} (h : BoxAt w w2 i j bw) : w.heap.size < w2.heap.size := by have := h.size; simp at this; omega

set_option maxRecDepth 100000 in
set_option maxHeartbeats 1000000 in
theorem Add_no (h : Mat w lo bm rb cp n n M) (hn1 : 1 ≤ n) (hn : n ≤ 24) (hc : ClosedM n M) (hb : rightB n b = true) (hneg : plusD (M b.j.toNat b.i.toNat) b.m < 0) :
    Calls Tryz.prog 26 #[.slice (some ⟨bm, 0, none⟩) n c, b.val] w fun e w' => e = .returned (.tuple #[.slice none 0 0, .int .i64 17]) ∧ Below w.heap.size w w' := by
  obtain ⟨bi, bj, bw⟩ := b
  obtain ⟨q1, q2, q3, q4, q5, q6⟩ := rightB_iff.1 hb
  simp only at q1 q2 q3 q4 q5 q6
  obtain ⟨i, rfl⟩ := Int.eq_ofNat_of_zero_le q1
  obtain ⟨j, rfl⟩ := Int.eq_ofNat_of_zero_le q3
  simp only [Int.toNat_natCast] at hneg
  have hi : i < n := by omega
  have hj : j < n := by omega
  have hcl := closed_yes lo bm n c rb cp M (w.alloc (.cells #[.int .i64 i, .int .i64 j, .int .i64 bw] 29)) (h.alloc _) hn1 hn hc
  have hrt := right_yes (b := ⟨i, j, bw⟩) hb
  have s1 := hc.size j i hj hi
  have b1 : -1125899906842624 ≤ M j i := by omega
  have b2 : M j i ≤ 1125899906842624 := by omega
  have H := Lib.hid h; clear h
  clear s1 hc hb
  show Calls Tryz.prog 26 #[.slice (some ⟨bm, 0, none⟩) n c, .agg #[.int .i64 i, .int .i64 j, .int .i64 bw]] w _
  go_enter Tryz.func26, Tryz.ntmps26
  go_wp2_with fail
  refine hcl.mono ?_
  rintro e w1 ⟨rfl, hb1⟩
  have hbx : BoxAt w w1 i j bw := hb1
  have e0 := hbx.c0
  have e1 := hbx.c1
  have e2 := hbx.c2
  clear hbx
  go_wp2_with fail
  refine (hrt _).mono ?_
  rintro e w2 ⟨rfl, hb2⟩
  have HX : BoxAt w w2 i j bw := hb1.trans (hb2.mono hb1.size)
  clear e0 e1 e2 hb1 hb2 hcl hrt
  have HM := H.out.below HX.below
  have o1 := HM.outer j hj
  have r1 := HM.row j i hj hi
  have l1 := HM.olt
  have l2 := HM.rlt j hj
  have d0 := HX.c0
  have d1 := HX.c1
  have d2 := HX.c2
  have l0 := HX.lt
  clear HM
  have HX' := Lib.hid HX; clear HX
  go_wp2
  refine wp_region_ext (by kernel_rfl) (by kernel_rfl) ?_
  repeat (refine wpQuiet_step (fun K hK => ?_); go_simp; first | (refine hK _ ?_; clear hK K) | (apply Exists.intro; refine ⟨fun _ => ?_, hK _ ?_⟩; (exact calls_ext_same (plus_any _ _ _ (by omega) (by omega) (by omega) (by omega))); clear hK K))
  refine wpQuiet_nil ?_
  intro x0
  go_wp2
  go_ret2
  exact ⟨rfl, HX'.out.below.trans ((below_ext _ x0).mono HX'.out.below.size)⟩

theorem clone_row {k : Nat} (h : Mat w lo bm rb cp n n M) (hn : n ≤ 24) (hk : k < n) (c : Nat) :
    Calls Tryz.prog 57 #[.slice (some ⟨rb k, 0, none⟩) n c] w fun e w' => ∃ g cap, e = .returned (.slice (some ⟨g, 0, none⟩) n cap) ∧ Aside (w.heap.size ≤ g ∧ g < w'.heap.size ∧ (∀ j, j < n → w'.cell? ⟨g, j, none⟩ = some (.int .i64 (M k j))) ∧ (∀ j, w'.frozen? ⟨g, j, none⟩ = false)) ∧ Below w.heap.size w w' := by
  have := clone57 (rb k) 0 c ((List.range n).map (M k)) w (h.rowRd (by omega) hk) (by simp; omega)
  rw [List.length_map, List.length_range] at this
  refine this.mono ?_
  rintro e w' ⟨g, cap, rfl, hown, hb⟩
  have hl : ((List.range n).map (M k)).length = n := by simp
  have hown' : OwL encI 1 3 w' w.heap.size (.slice (some ⟨g, 0, none⟩) ((List.range n).map (M k)).length cap) ((List.range n).map (M k)) := by rw [hl]; exact hown
  have ho := hown'.ows enc57.len
  refine ⟨g, cap, rfl, ⟨ho.lo, ho.lt, fun j hj => ?_, ho.fz⟩, hb⟩
  have := ho.cell j (by rw [hl]; exact hj) 0 _ rfl
  rw [Nat.mul_one, Nat.add_zero] at this
  rw [this]
  rw [List.getD_eq_getElem?_getD, List.getElem?_map, List.getElem?_range hj]; rfl

/-- the new matrix, up to row k, place j -/
def addTo (M : Mx) (b : Bd) (k j : Nat) : Mx := fun a d => if a < k ∨ (a = k ∧ d < j) then addM M b a d else M a d

def AddO (L : Nat) (wr : World) (bo n k : Nat) (N : Mx) : Prop :=
  (∃ rb cp, Mat wr L bo rb cp k n N) ∧ ∀ i, k ≤ i → i < n → wr.cell? ⟨bo, i, none⟩ = some (.slice none 0 0)
theorem addO_start {W : World} {L n : Nat} (hb : L ≤ W.heap.size) (N : Mx) : AddO L (W.alloc (.cells (List.replicate n (.slice none 0 0)).toArray 26)) W.heap.size n 0 N := by
  refine ⟨⟨fun _ => 0, fun _ => 0, Mat.none_ hb (by simp) (fun i => ?_) _ _ _ _⟩, fun i _ hi => ?_⟩
  · unfold World.frozen?; rw [heap_alloc_new]; simp
  · rw [World.cell?_alloc_new]; simp [hi]
/-- the row k laid -/
theorem addO_row {wr w1 : World} {L bo k g cap : Nat} (hk : k < n) (hB : L ≤ wr.heap.size) (h : AddO L wr bo n k (addTo M b k 0)) (hb : Below wr.heap.size wr w1) (hbo : bo < wr.heap.size)
    (hg : wr.heap.size ≤ g ∧ g < w1.heap.size ∧ (∀ j, j < n → w1.cell? ⟨g, j, none⟩ = some (.int .i64 (M k j))) ∧ (∀ j, w1.frozen? ⟨g, j, none⟩ = false)) :
    (∃ rb cp, Mat (w1.setCell ⟨bo, k, none⟩ (.slice (some ⟨g, 0, none⟩) n cap)) L bo rb cp (k + 1) n (addTo M b k 0) ∧ rb k = g ∧ cp k = cap) ∧
    (∀ i, k + 1 ≤ i → i < n → (w1.setCell ⟨bo, k, none⟩ (.slice (some ⟨g, 0, none⟩) n cap)).cell? ⟨bo, i, none⟩ = some (.slice none 0 0)) := by
  obtain ⟨⟨rb, cp, HM⟩, HN⟩ := h
  obtain ⟨g1, g2, g3, g4⟩ := hg
  have hcell : ∀ i, k ≤ i → i < n → w1.cell? ⟨bo, i, none⟩ = some (.slice none 0 0) := fun i h1 h2 => by
    rw [hb.cell hbo]; exact HN i h1 h2
  have M1 := (HM.below hb).growF (g := g) (r := M k) (c := cap) (by omega) (fun i hi => by have := HM.rlt i hi; omega) (by omega) (hcell k (Nat.le_refl _) hk) g2 g3 g4
  refine ⟨⟨_, _, M1.congr fun i j hi hj => ?_, by simp, by simp⟩, fun i h1 h2 => ?_⟩
  · unfold addTo
    by_cases e : i = k
    · subst e
      rw [if_pos rfl, if_neg (by omega)]
    · rw [if_neg e]
  · rw [World.cell?_setCell_other _ _ _ _ (fun e => by have := congrArg Addr.off e; simp at this; omega)]
    exact hcell i (by omega) h2
theorem addTo_next (M : Mx) (b : Bd) (k : Nat) {i j : Nat} (hi : i < k + 1) (hj : j < n) : addTo M b k n i j = addTo M b (k + 1) 0 i j := by
  unfold addTo
  rw [if_pos (by omega), if_pos (by omega)]
theorem addTo_all (M : Mx) (b : Bd) {i j : Nat} (hi : i < n) : addTo M b n 0 i j = addM M b i j := by
  unfold addTo; rw [if_pos (by omega)]
theorem addTo_set (M : Mx) (b : Bd) (k j : Nat) (i d : Nat) : upd (addTo M b k j) k j (addM M b k j) i d = addTo M b k (j + 1) i d := by
  unfold upd addTo
  by_cases e : i = k ∧ d = j
  · obtain ⟨rfl, rfl⟩ := e
    rw [if_pos ⟨rfl, rfl⟩, if_pos (by omega)]
  · rw [if_neg e]
    by_cases e2 : i < k ∨ (i = k ∧ d < j)
    · rw [if_pos e2, if_pos (by omega)]
    · rw [if_neg e2, if_neg (by omega)]
end
end Go.Proofs.YthilkphnjffnhaaGreat
