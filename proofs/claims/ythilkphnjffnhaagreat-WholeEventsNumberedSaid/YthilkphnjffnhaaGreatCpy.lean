/- network.copyOf; network.Valid. -/
import Derived.Test.YthilkphnjffnhaaGreatAddb
import Derived.Test.YthilkphnjffnhaaGreatEac
import Derived.Test.YthilkphnjffnhaaGreatIdx
set_option linter.unusedSimpArgs false
set_option linter.unusedVariables false
namespace Go.Proofs.YthilkphnjffnhaaGreat
open Go.RowKit Go.Shelf

theorem addO_next {wr w1 : World} {L bo k n g cap : Nat} {M : Mx} (hk : k < n) (hB : L ≤ wr.heap.size) (h : AddO L wr bo n k M) (hb : Below wr.heap.size wr w1) (hbo : bo < wr.heap.size)
    (hg : wr.heap.size ≤ g ∧ g < w1.heap.size ∧ (∀ j, j < n → w1.cell? ⟨g, j, none⟩ = some (.int .i64 (M k j))) ∧ (∀ j, w1.frozen? ⟨g, j, none⟩ = false)) :
    AddO L (w1.setCell ⟨bo, k, none⟩ (.slice (some ⟨g, 0, none⟩) n cap)) bo n (k + 1) M := by
  obtain ⟨⟨rb, cp, HM⟩, HN⟩ := h
  obtain ⟨g1, g2, g3, g4⟩ := hg
  have hcell : ∀ i, k ≤ i → i < n → w1.cell? ⟨bo, i, none⟩ = some (.slice none 0 0) := fun i h1 h2 => by
    rw [hb.cell hbo]; exact HN i h1 h2
  have M1 := (HM.below hb).growF (g := g) (r := M k) (c := cap) (by omega) (fun i hi => by have := HM.rlt i hi; omega) (by omega) (hcell k (Nat.le_refl _) hk) g2 g3 g4
  refine ⟨⟨_, _, M1.congr fun i j hi hj => ?_⟩, fun i h1 h2 => ?_⟩
  · by_cases e : i = k
    · subst e; rw [if_pos rfl]
    · rw [if_neg e]
  · rw [World.cell?_setCell_other _ _ _ _ (fun e => by have := congrArg Addr.off e; simp at this; omega)]
    exact hcell i (by omega) h2

/-- a new matrix that holds M -/
def NewMat (w : World) (n : Nat) (M : Mx) (e : Ending) (w' : World) : Prop := ∃ bo rb cp, e = .returned (.slice (some ⟨bo, 0, none⟩) n n) ∧ Mat w' w.heap.size bo rb cp n n M ∧ Below w.heap.size w w'
set_option maxRecDepth 100000 in
set_option maxHeartbeats 4000000 in
theorem copyOf_any {lo bm n c : Nat} {rb cp : Nat → Nat} {M : Mx} {w : World} (h : Mat w lo bm rb cp n n M) (hn : n ≤ 24) :
    Calls Tryz.prog 194 #[.slice (some ⟨bm, 0, none⟩) n c] w (NewMat w n M) := by
  have hmk := make_rows n (by omega)
  have hn0 : (0 : Int) ≤ (n : Int) := by omega
  have H := Lib.hid h; clear h
  go_enter Tryz.func194, Tryz.ntmps194
  go_wp2
  have START := Lib.hid (addO_start (L := w.heap.size) (n := n) (Nat.le_refl _) M)
  have HB0 := Lib.hid (show Below w.heap.size w (w.alloc (.cells (List.replicate n (.slice none 0 0)).toArray 26)) from (Below.refl _ _).alloc (Nat.le_refl _) _)
  clear hmk
  go_loopg [11] n (fun gg s11 wr => ∃ k : Nat, k ≤ n ∧ n - k ≤ gg ∧ s11 = .int .i64 (k : Int) ∧ Aside (AddO w.heap.size wr w.heap.size n k M) ∧ Aside (Below w.heap.size w wr) ∧ w.heap.size < wr.heap.size)
  case atStart => exact ⟨0, Nat.zero_le _, by omega, rfl, START.out, HB0.out, by simp⟩
  case round =>
    obtain ⟨k, hk, hg, rfl, HA, HB, hlt'⟩ := hrel
    clear START HB0
    by_cases hlt : k < n
    · have hltz : (k : Int) < (n : Int) := by omega
      have HM := H.out.below HB.out
      have o1 := HM.outer k hlt
      have hcl := Lib.hid (clone_row HM hn hlt (cp k))
      have hA := Lib.hid HA; have hB := Lib.hid HB
      clear HM HA HB
      go_wp2_with fail
      refine hcl.out.mono ?_
      rintro e w1 ⟨g, cap, rfl, HG, hb1⟩
      have NEXT : Aside (AddO w.heap.size (w1.setCell ⟨w.heap.size, k, none⟩ (.slice (some ⟨g, 0, none⟩) n cap)) w.heap.size n (k + 1) M) := addO_next hlt hB.out.out.size hA.out.out hb1 hlt' HG.out
      have NB : Aside (Below w.heap.size w (w1.setCell ⟨w.heap.size, k, none⟩ (.slice (some ⟨g, 0, none⟩) n cap))) := (hB.out.out.trans (hb1.mono hB.out.out.size)).setCell (p := ⟨w.heap.size, k, none⟩) (Nat.le_refl _) _
      have c1 := (hb1.cell (p := ⟨w.heap.size, k, none⟩) hlt').trans (hA.out.out.2 k (Nat.le_refl _) hlt)
      have f1 : w1.frozen? ⟨w.heap.size, k, none⟩ = false := by
        obtain ⟨⟨_, _, hm⟩, _⟩ := hA.out.out
        exact (hb1.frozen (p := ⟨w.heap.size, k, none⟩) hlt').trans (hm.ofz k)
      have hl1 : w.heap.size < w1.heap.size := by have := hb1.size; omega
      clear hA hB hcl hb1 HG o1
      go_wp2
      go_roundg (n - (k + 1))
      case measure => omega
      case rel => exact ⟨k + 1, by omega, by omega, by go_num, NEXT, NB, by simpa [World.setCell] using hl1⟩
    · obtain rfl : n = k := by omega
      have hltz : ¬ (n : Int) < (n : Int) := by omega
      obtain ⟨⟨rb', cp', hm⟩, _⟩ := HA.out
      have HM := Lib.hid hm
      clear hm HA
      go_wp2
      go_ret
      exact ⟨_, rb', cp', rfl, HM.out, HB.out⟩

/-! ### Valid -/
def rlB (n : Int) (r : Rl) : Bool := decide (0 ≤ r.i ∧ r.i < n ∧ 0 ≤ r.j ∧ r.j < n ∧ 0 ≤ r.s ∧ r.s ≤ 8191)
theorem rlB_iff {n : Int} {r : Rl} : rlB n r = true ↔ 0 ≤ r.i ∧ r.i < n ∧ 0 ≤ r.j ∧ r.j < n ∧ 0 ≤ r.s ∧ r.s ≤ 8191 := by simp [rlB]
theorem rlB_no {n : Int} {r : Rl} (h : ¬ (0 ≤ r.i ∧ r.i < n ∧ 0 ≤ r.j ∧ r.j < n ∧ 0 ≤ r.s ∧ r.s ≤ 8191)) : rlB n r = false := by
  cases e : rlB n r with
  | false => rfl
  | true => exact absurd (rlB_iff.1 e) h
set_option maxHeartbeats 1000000 in
theorem nvalid1_any (n : Int) (r : Rl) (bn : Nat) (w : World) (hbn : bn < w.heap.size) (hc : w.cell? ⟨bn, 0, none⟩ = some (.int .i64 n)) :
    Calls Tryz.prog 74 (#[r.val] ++ #[.pointer (some ⟨bn, 0, none⟩)]) w fun e w' => e = .returned (.bool (!rlB n r)) ∧ Below w.heap.size w w' := by
  obtain ⟨i, j, s⟩ := r
  show Calls Tryz.prog 74 #[.agg #[.int .i64 i, .int .i64 j, .int .i64 s], .pointer (some ⟨bn, 0, none⟩)] w _
  have hne : bn < w.heap.size + 1 := by omega
  by_cases h1 : 0 ≤ i
  · by_cases h2 : i < n
    · by_cases h3 : 0 ≤ j
      · by_cases h4 : j < n
        · have HS := Lib.hid (set_any s)
          have HE := Lib.hid (show rlB n ⟨i, j, s⟩ = setB s by simp [rlB, setB, h1, h2, h3, h4])
          rw [HE.out]
          generalize setB s = x at *
          clear HE
          go_enter Tryz.func74, Tryz.ntmps74
          go_wp2_with fail
          refine (HS.out _).mono ?_
          rintro e w1 ⟨rfl, rfl⟩
          go_wp2
          go_ret
          exact ⟨ret_bool (by rw [decide_eq_false (show ¬ i < 0 by omega), decide_eq_false (show ¬ n ≤ i by omega), decide_eq_false (show ¬ j < 0 by omega), decide_eq_false (show ¬ n ≤ j by omega)]; simp), (Below.refl _ _).alloc (Nat.le_refl _) _⟩
        · have HE := Lib.hid (rlB_no (n := n) (r := ⟨i, j, s⟩) (fun h => h4 h.2.2.2.1))
          rw [HE.out]
          go_enter Tryz.func74, Tryz.ntmps74
          go_wp2
          go_ret
          exact ⟨rfl, (Below.refl _ _).alloc (Nat.le_refl _) _⟩
      · have HE := Lib.hid (rlB_no (n := n) (r := ⟨i, j, s⟩) (fun h => h3 h.2.2.1))
        rw [HE.out]
        go_enter Tryz.func74, Tryz.ntmps74
        go_wp2
        go_ret
        exact ⟨rfl, (Below.refl _ _).alloc (Nat.le_refl _) _⟩
    · have HE := Lib.hid (rlB_no (n := n) (r := ⟨i, j, s⟩) (fun h => h2 h.2.1))
      rw [HE.out]
      go_enter Tryz.func74, Tryz.ntmps74
      go_wp2
      go_ret
      exact ⟨rfl, (Below.refl _ _).alloc (Nat.le_refl _) _⟩
  · have HE := Lib.hid (rlB_no (n := n) (r := ⟨i, j, s⟩) (fun h => h1 h.1))
    rw [HE.out]
    go_enter Tryz.func74, Tryz.ntmps74
    go_wp2
    go_ret
    exact ⟨rfl, (Below.refl _ _).alloc (Nat.le_refl _) _⟩

def nvalid (n : Int) (l : List Rl) : Bool := decide (1 ≤ n ∧ n ≤ 8) && decide (l.length ≤ 200) && !l.any (fun b => !rlB n b)
theorem nvalid_iff {n : Int} {l : List Rl} : nvalid n l = true ↔ 1 ≤ n ∧ n ≤ 8 ∧ l.length ≤ 200 ∧ ∀ b ∈ l, rlB n b = true := by
  simp only [nvalid, Bool.and_eq_true, decide_eq_true_eq, Bool.not_eq_true', List.any_eq_false]
  constructor
  · rintro ⟨⟨⟨h1, h2⟩, h3⟩, h4⟩
    exact ⟨h1, h2, h3, fun b hb => by simpa using h4 b hb⟩
  · rintro ⟨h1, h2, h3, h4⟩
    exact ⟨⟨⟨h1, h2⟩, h3⟩, fun b hb => by simpa using h4 b hb⟩
theorem nvalid_no {n : Int} {l : List Rl} (h : ¬ (1 ≤ n ∧ n ≤ 8 ∧ l.length ≤ 200)) : nvalid n l = false := by
  cases e : nvalid n l with
  | false => rfl
  | true => have := nvalid_iff.1 e; exact absurd ⟨this.1, this.2.1, this.2.2.1⟩ h
theorem nvalid_rest {n : Int} {l : List Rl} (h1 : 1 ≤ n) (h2 : n ≤ 8) (h3 : l.length ≤ 200) : nvalid n l = !l.any (fun b => !rlB n b) := by simp [nvalid, h1, h2, h3]
set_option maxHeartbeats 1000000 in
theorem nvalid_any (n : Int) (A : Option Addr) (c : Nat) (l : List Rl) (w : World) (hs : RdS Rl.enc 3 w A l) :
    Calls Tryz.prog 27 #[.int .i64 n, .slice A l.length c] w fun e w' => e = .returned (.bool (nvalid n l)) ∧ Below w.heap.size w w' := by
  have hlen := hs.len
  have hB1 : Below w.heap.size w (w.alloc (.cells #[.int .i64 n] 3)) := (Below.refl _ _).alloc (Nat.le_refl _) _
  by_cases h1 : 1 ≤ n
  · by_cases h2 : n ≤ 8
    · by_cases h3 : l.length ≤ 200
      · have h3' : (l.length : Int) ≤ 200 := by omega
        have hc := containsFunc73 74 #[.pointer (some ⟨w.heap.size, 0, none⟩)] (enters_of Tryz.func74 (by kernel_rfl) rfl) (fun b => !rlB n b) A c l (w.alloc (.cells #[.int .i64 n] 3)) (hs.below hB1)
          (fun b _ W hW => nvalid1_any n b w.heap.size W (by have := hW.size; simp at this; omega) (by rw [hW.cell (by simp)]; simp))
        have HE := Lib.hid (nvalid_rest h1 h2 h3)
        rw [HE.out]
        generalize l.any (fun b => !rlB n b) = x at *
        have HC := Lib.hid hc
        clear hc HE hs
        go_enter Tryz.func27, Tryz.ntmps27
        go_wp2_with fail
        refine HC.out.mono ?_
        rintro e w' ⟨rfl, hb'⟩
        go_wp2
        go_ret
        exact ⟨rfl, hB1.trans (hb'.mono (by simp))⟩
      · have h3' : ¬ (l.length : Int) ≤ 200 := by omega
        have HE := Lib.hid (nvalid_no (n := n) (l := l) (fun h => h3 h.2.2))
        rw [HE.out]
        go_enter Tryz.func27, Tryz.ntmps27
        go_wp2
        go_ret
        exact ⟨rfl, hB1⟩
    · have HE := Lib.hid (nvalid_no (n := n) (l := l) (fun h => h2 h.2.1))
      rw [HE.out]
      go_enter Tryz.func27, Tryz.ntmps27
      go_wp2
      go_ret
      exact ⟨rfl, hB1⟩
  · have HE := Lib.hid (nvalid_no (n := n) (l := l) (fun h => h1 h.1))
    rw [HE.out]
    go_enter Tryz.func27, Tryz.ntmps27
    go_wp2
    go_ret
    exact ⟨rfl, hB1⟩
end Go.Proofs.YthilkphnjffnhaaGreat
