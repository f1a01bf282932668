/- slices.Repeat of one whole number: a new row that holds it n times. -/
import Derived.Test.YthilkphnjffnhaaGreatLeaf
import Derived.Test.YthilkphnjffnhaaGreatMul
import Derived.Laws.CopyOwn
import Derived.Test.YthilkphnjffnhaaGreatExt
import Derived.Deep.RegionLaw
set_option linter.unusedSimpArgs false
set_option linter.unusedVariables false
namespace Go.Proofs.YthilkphnjffnhaaGreat
open Go.RowKit Go.Shelf

theorem int_info : (Tryz.prog.info? 3).map (fun i => (i.zero, i.size, i.bytes)) = some (some (.int .i64 0), 1, 8) := by kernel_rfl
theorem make_ints (m : Nat) (hm : m ≤ 1048576) (W : World) : (Instr.makeSlice 26 (.int .i64 (m : Int)) (.int .i64 (m : Int))).run Tryz.prog W = .ok (.slice (some ⟨W.heap.size, 0, none⟩) m m) (W.alloc (.cells (List.replicate m (.int .i64 0)).toArray 3)) := by
  obtain ⟨i0, hi, hz0, hz1, hz2⟩ := info_parts int_info
  have h := run_make (P := Tryz.prog) W 26 3 i0 (.int .i64 0) Tryz.underlying26 hi hz0 .i64 .i64 m m (by omega) (by omega) (by rw [hz2]; omega) (by omega)
  rw [h, hz1]
  simp only [Int.toNat_natCast, Nat.mul_one]
  have : madeCells (Value.int .i64 0).cells m = (List.replicate m (.int .i64 0)).toArray := by
    rw [← toList_madeCells_one]
    rfl
  rw [this]
theorem mul_one_any (n : Nat) (h : n ≤ 1048576) (w : World) :
    Calls Tryz.prog 176 #[.int .u64 1, .int .u64 n] w fun e w' => e = .returned (.tuple #[.int .u64 0, .int .u64 n]) ∧ w = w' := by
  refine (Tryz.bits_Mul 1 n (by omega) (by omega) w).mono ?_
  rintro e w' ⟨rfl, rfl⟩
  refine ⟨?_, rfl⟩
  rw [show 1 * n / 18446744073709551616 = 0 by omega, show 1 * n % 18446744073709551616 = n by omega]; rfl

/-- A block known whole. -/
def Blk (w : World) (g : Nat) (t : TypeId) (cs : List Value) : Prop := w.heap[g]? = some (.cells cs.toArray t (0, 0))

/-- what Repeat has written after k cells -/
def repCells (n k : Nat) (x : Int) : List Value := List.replicate k (.int .i64 x) ++ List.replicate (n - k) (.int .i64 0)
theorem repCells_len {n k : Nat} {x : Int} (h : k ≤ n) : (repCells n k x).length = n := by simp [repCells]; omega
theorem repCells_zero (n : Nat) (x : Int) : repCells n 0 x = List.replicate n (.int .i64 0) := by simp [repCells]
theorem repCells_all (n : Nat) (x : Int) : repCells n n x = List.replicate n (.int .i64 x) := by simp [repCells]
theorem repCells_get {n k : Nat} {x : Int} {j : Nat} (hj : j < k) : (repCells n k x)[j]? = some (.int .i64 x) := by simp [repCells, List.getElem?_append, hj]
theorem splice_rep {n k m : Nat} {x : Int} (h : k + m ≤ n) : splice (repCells n k x) k (List.replicate m (.int .i64 x)) = repCells n (k + m) x := by
  unfold splice repCells
  rw [List.take_append_of_le_length (by simp), List.take_of_length_le (by simp), List.drop_append, List.length_replicate, List.length_replicate,
    List.drop_of_length_le (by simp), ← List.append_assoc, ← List.append_assoc, List.replicate_append_replicate, List.append_nil, List.drop_replicate]
  congr 2; omega

set_option maxRecDepth 100000 in
set_option maxHeartbeats 1000000 in
theorem repeat_any (x : Int) (n b c : Nat) (hn : n ≤ 1048576) (w : World) (hc : w.cell? ⟨b, 0, none⟩ = some (.int .i64 x)) (hb : b < w.heap.size) :
    Calls Tryz.prog 133 #[.slice (some ⟨b, 0, none⟩) 1 c, .int .i64 n] w fun e w' => ∃ g, e = .returned (.slice (some ⟨g, 0, none⟩) n n) ∧ w.heap.size ≤ g ∧ Blk w' g 3 (List.replicate n (.int .i64 x)) ∧ Below w.heap.size w w' := by
  have hmk := make_ints n hn
  have hn0 : ¬ (n : Int) < 0 := by omega
  have hn1 : ¬ (9223372036854775807 : Int) < (n : Int) := by omega
  have hB0 : Below w.heap.size w (w.alloc (.cells (List.replicate n (.int .i64 0)).toArray 3)) := (Below.refl _ _).alloc (Nat.le_refl _) _
  obtain ⟨k0, hk0⟩ : ∃ k0 : Nat, k0 = min 1 n := ⟨_, rfl⟩
  have hk1 : k0 ≤ n := by omega
  have hk2 : 0 < n → 0 < k0 := by omega
  have hk3 : k0 ≤ 1 := by omega
  have HK0 := Lib.hid hk0; clear hk0
  go_enter Tryz.func133, Tryz.ntmps133
  go_wp2_with (first
    | (go_at_call 176; refine (mul_one_any n hn _).mono ?_; rintro e w' ⟨rfl, rfl⟩)
    | (refine wpList_copy_splice rfl (.tmp 31) (.tmp 32) 26 26 rfl 3 Tryz.underlying26 (by kernel_rfl) _ _ _ _ _ _ rfl rfl w.heap.size 0 (repCells n 0 x) 3 ?_ (List.replicate k0 (.int .i64 x)) ?_ ?_ ?_ ?_ w.heap.size w hB0 (Nat.le_refl _) ?_))
  · rw [repCells_zero]; exact heap_alloc_new w _
  · rw [List.length_replicate]; exact HK0.out
  · intro hpos j v hv
    have hj : j = 0 := by
      rw [List.getElem?_replicate] at hv
      split at hv
      · omega
      · cases hv
    subst hj
    rw [List.getElem?_replicate] at hv
    split at hv
    · cases hv
      exact hc
    · omega
  · simp [repCells]; omega
  · intro v hv
    rw [List.eq_of_mem_replicate hv]; rfl
  intro w2 hg2 hb2
  have hg3 : Hid (w2.heap[w.heap.size]? = some (.cells (repCells n k0 x).toArray 3 (0, 0))) := by
    have := hg2.out
    rw [splice_rep (by omega), Nat.zero_add] at this
    exact this
  clear hg2 hmk hc HK0 hB0
  go_wp2
  go_loopg [8] n (fun gg s8 wr => ∃ k : Nat, k ≤ n ∧ (0 < n → 0 < k) ∧ n - k ≤ gg ∧ s8 = .int .i64 k ∧ Aside (wr.heap[w.heap.size]? = some (.cells (repCells n k x).toArray 3 (0, 0))) ∧ Aside (Below w.heap.size w wr))
  case atStart => exact ⟨k0, hk1, hk2, by omega, by simp [goInt], hg3.out, hb2⟩
  case round =>
    obtain ⟨k, hk, hkp, hg, rfl, HG, HB⟩ := hrel
    clear hg3 hb2 hk1 hk2 hk3
    by_cases hlt : k < n
    · have hltz : (k : Int) < (n : Int) := by omega
      obtain ⟨m, hm⟩ : ∃ m : Nat, m = min k (n - k) := ⟨_, rfl⟩
      have hm1 : k + m ≤ n := by omega
      have hm2 : 0 < m := by have := hkp (by omega); omega
      have HM := Lib.hid hm; clear hm
      have s1 := Lib.hid (show (List.replicate m (Value.int .i64 x)).length = Nat.min k (n - k) by rw [List.length_replicate]; exact HM.out)
      have s2 := Lib.hid (show 0 < (List.replicate m (Value.int .i64 x)).length → (if n = k then some (⟨w.heap.size, 0, none⟩ : Addr) else some ⟨w.heap.size, k, none⟩) = some ⟨w.heap.size, k, none⟩ ∧ ∃ ad, some (⟨w.heap.size, 0, none⟩ : Addr) = some ad ∧ ∀ j v, (List.replicate m (Value.int .i64 x))[j]? = some v → wr.drew.cell? (ad.add j) = some v from by
        intro _
        refine ⟨by rw [if_neg (by omega)], _, rfl, fun j v hv => ?_⟩
        rw [List.getElem?_replicate] at hv
        split at hv
        · cases hv
          have hj : j < k := by have := HM.out; omega
          rw [show ((⟨w.heap.size, 0, none⟩ : Addr).add j) = ⟨w.heap.size, j, none⟩ by unfold Addr.add; split <;> simp_all]
          rw [cell_of_row wr.drew _ _ _ _ _ HG.out]
          simp only [List.getElem?_toArray]
          exact repCells_get hj
        · cases hv)
      have s3 := Lib.hid (show k + (List.replicate m (Value.int .i64 x)).length ≤ (repCells n k x).length by rw [repCells_len hk, List.length_replicate]; omega)
      have s4 := Lib.hid (show ∀ v ∈ List.replicate m (Value.int .i64 x), v.oneCell' = true from fun v hv => by rw [List.eq_of_mem_replicate hv]; rfl)
      go_wp2
      go_region_law (refine step_copy_splice rfl (.tmp 41) (.tmp 44) 26 26 rfl 3 Tryz.underlying26 (by kernel_rfl) (if n = k then some ⟨w.heap.size, 0, none⟩ else some ⟨w.heap.size, k, none⟩) (some ⟨w.heap.size, 0, none⟩) (n - k) (n - k) k n (by simp [Act.eval, Act.put]) (by simp [Act.eval, Act.put]) w.heap.size k (repCells n k x) 3 HG.out (List.replicate m (.int .i64 x)) s1.out s2.out s3.out s4.out w.heap.size w HB.out.drew (Nat.le_refl _) ?_; intro w4 hg4 hb4)
      have hg5 : Aside (w4.heap[w.heap.size]? = some (.cells (repCells n (k + m) x).toArray 3 (0, 0))) := by
        have := hg4.out
        rwa [splice_rep hm1] at this
      clear hg4 HG HB s1 s2 s3 s4
      go_wp2
      go_roundg (n - (k + m))
      case measure => omega
      case rel => exact ⟨k + m, by omega, by omega, by omega, by simp [goInt]; rw [IntKind.wrap_i64]; omega, hg5, hb4⟩
    · have hltz : ¬ (k : Int) < (n : Int) := by omega
      obtain rfl : k = n := by omega
      go_wp2
      go_ret
      exact ⟨_, rfl, Nat.le_refl _, by rw [← repCells_all]; exact HG.out, HB.out⟩
end Go.Proofs.YthilkphnjffnhaaGreat
