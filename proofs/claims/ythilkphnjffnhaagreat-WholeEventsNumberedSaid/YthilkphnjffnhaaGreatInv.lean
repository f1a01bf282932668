/- allen.Inverse. -/
import Derived.Test.YthilkphnjffnhaaGreatEac
import Derived.Shelf.RegionOpen
import Derived.IntWalk
set_option linter.unusedSimpArgs false
set_option linter.unusedVariables false
namespace Go.Proofs.YthilkphnjffnhaaGreat
open Go.RowKit Go.Shelf
attribute [local go_sem] Oper.semAt_some

def invG (pre : List R13) : Nat := pre.foldl (fun o r => o ||| 2 ^ (12 - r.1)) 0
theorem pow13 {r : Nat} (hr : r < 13) : 2 ^ r < 8192 := Nat.lt_of_lt_of_le (Nat.pow_lt_pow_right (by omega) hr) (Nat.le_refl _)
theorem invG_all (s : Nat) : invG (bitsF s) = invN s := by
  unfold invG invN
  rw [← bitsF_map, List.foldl_map]
theorem invG_snoc (pre : List R13) (x : R13) : invG (pre ++ [x]) = invG pre ||| 2 ^ (12 - x.1) := by simp [invG]
theorem invG_lt (pre : List R13) : invG pre < 8192 := fold_lt (fun r : R13 => 2 ^ (12 - r.1)) 13 pre 0 (by decide) (fun x _ => Nat.lt_of_le_of_lt (Nat.pow_le_pow_right (by omega) (show 12 - x.1 ≤ 12 by omega)) (by decide))

set_option maxRecDepth 100000 in
set_option maxHeartbeats 4000000 in
theorem inverse_any (s : Nat) (hs : s < 8192) (w : World) : Calls Tryz.prog 28 #[.int .i64 (s : Int)] w fun e w' => e = .returned (.int .i64 ((invN s : Nat) : Int)) ∧ Below w.heap.size w w' := by
  have hset : setB (s : Int) = true := by simp [setB]; omega
  have hro : Fence.wide.round = none := rfl
  refine (callsIn_wide (n := 9)).1 ?_
  refine callsIn_of_wp_marks Tryz.func28 rfl trivial ?_ hro
  simp only [Tryz.ntmps28, List.size_toArray, List.length_cons, List.length_nil, Nat.reduceAdd, Nat.reduceSub, Array.replicate_succ, Array.replicate_zero, List.push_toArray, List.append_toArray, List.nil_append, List.cons_append]
  have HSET := Lib.hid hset; clear hset
  gi_wp2_with (first | (refine ⟨trivial, ?_⟩; gi_at_call 76; refine (callsIn_wide.2 (isSet_any (s : Int) _)).mono ?_; rintro e w' ⟨rfl, rfl⟩; rw [HSET.out]) | (refine ⟨trivial, ?_⟩; gi_at_call 77; refine (each_in Fence.wide _ trivial hro _ _).mono ?_; rintro e w' ⟨rfl, rfl⟩))
  have bO := Boxed.new w 3 (.int .i64 0)
  have bN := Boxed.new (w.alloc (.cells #[.int .i64 0] 3)) 3 (.int .i64 (s : Int))
  rw [World.size_alloc] at bN
  have hB0 : Below w.heap.size w ((w.alloc (.cells #[.int .i64 0] 3)).alloc (.cells #[.int .i64 (s : Int)] 3)) := ((Below.refl _ w).alloc (Nat.le_refl _) _).alloc (by simp) _
  refine wpIn_rangeFunc_ownG hro (by omega) (gf := 142) (lb := #[.pointer (some ⟨w.heap.size + 1, 0, none⟩)]) rfl trivial (enters_of Tryz.func142 (by kernel_rfl) rfl)
    (each_stops Fence.wide (9 - 1) trivial hro (by omega) (w.heap.size + 1) s hs _ (by simp) bN.cell) kpB_t (kpB_b (by simp)) (Below.refl _ _) (fun _ => rfl)
    (fun pre W => Boxed W w.heap.size 3 (.int .i64 ((invG pre : Nat) : Int)) ∧ Below w.heap.size w W)
    (fun _ _ _ => False)
    (OwnFrom.and (Own.from (boxed_own _ _ _) _) (ownFrom_below (Nat.le_refl _) (by simp; omega)))
    (fun _ _ _ _ _ hs _ _ => hs)
    ⟨bO.alloc _, hB0⟩
    (fun x => { tmps := #[.int .i64 (s : Int), undef, .int .i64 0, .pointer (some ⟨w.heap.size, 0, none⟩), .int .i64 (x.1 : Int), .int .i64 (s : Int), .bool true, .bool false, .int .i64 (s : Int), .func (.func 142) #[] #[.pointer (some ⟨w.heap.size + 1, 0, none⟩)], .int .i64 (x.1 : Int), undef, undef, undef, undef, undef, undef], defers := [] }) ?assign ?body ?done ?stop
  case assign =>
    intro l x W K hK
    gi_wp2
    exact hK
  case body =>
    rintro l pre ⟨x, hx⟩ W ⟨hv, hB⟩ hlt
    have hc := hv.cell
    have hf := hv.frozen
    have hmx : Tryz.prog.follows .mixedOrders = true := by kernel_rfl
    obtain ⟨y, hy⟩ : ∃ y, y = 12 - x := ⟨_, rfl⟩
    obtain ⟨z, hz⟩ : ∃ z, z = 2 ^ y := ⟨_, rfl⟩
    have hzl : z < 8192 := by rw [hz]; exact pow13 (by omega)
    have hsh : IntKind.i64.wrap (2 ^ y) = (z : Int) := by rw [hz]; exact shl_one (by omega)
    have e12 : (12 : Int) - (x : Int) = (y : Int) := by omega
    have hor := or_i64 (invG pre) z (by have := invG_lt pre; omega) (by omega)
    have HSN := Lib.hid (show invG (pre ++ [⟨x, hx⟩]) = invG pre ||| z by rw [hz, hy]; exact invG_snoc pre ⟨x, hx⟩)
    have hx12 : (x : Int) ≤ 12 := by omega
    have hy12 : y ≤ 12 := by omega
    have hwy : IntKind.i64.wrap (y : Int) = (y : Int) := IntWalk.i64_in _ (by omega)
    have hy0 : (0 : Int) ≤ (y : Int) := by omega
    have hy64 : (y : Int) ≤ 64 := by omega
    clear hy hz
    gi_wp2
    gi_region_with_o (fail)
    all_goals gi_wp2
    all_goals exact ⟨((KeepsOthers.setCell _ _ _).trans (KeepsOthers.drew _)).from _, kpB_set _ (by simp) _, by rw [HSN.out]; exact hv.set _, (hB.setCell (p := ⟨w.heap.size, 0, none⟩) (Nat.le_refl _) _).drew⟩
  case done =>
    rintro D ys W hD rfl ⟨hv, hB⟩ hK
    have hc := hv.cell
    gi_wp2
    refine ⟨by simp, .inl ⟨_, _, rfl, run_takeDeferred hK, ?_⟩⟩
    exact ⟨_, results_tmp rfl _ _ _, by rw [invG_all]; rfl, hB.trans (belowK_b (w := w) (Nat.le_refl _) W D _ _ (by simp at hD; omega) hK rfl rfl)⟩
  case stop =>
    rintro D c pre W _ _ h _
    exact h.elim
end Go.Proofs.YthilkphnjffnhaaGreat
