/- allen.Singles. -/
import Derived.Test.YthilkphnjffnhaaGreatInv
import Derived.Test.YthilkphnjffnhaaGreatCln
import Derived.Maps.AppendAt
set_option linter.unusedSimpArgs false
set_option linter.unusedVariables false
namespace Go.Proofs.YthilkphnjffnhaaGreat
open Go.RowKit Go.Shelf
attribute [local go_sem] Oper.semAt_some

def sngG (pre : List R13) : List Int := pre.map fun r => (r.1 : Int)
theorem sngG_all (s : Nat) : sngG (bitsF s) = (bitsL s).map fun r : Nat => (r : Int) := by
  unfold sngG
  rw [← bitsF_map, List.map_map]; rfl
theorem row_mono {W : World} {base base' : Nat} {e : TypeId} {k : Nat} {v : Value} {n : Nat} {xs : List Value} (h : W.ownsRow base e k v n xs) (hb : base' ≤ base) : W.ownsRow base' e k v n xs := by
  refine ⟨h.1, ?_⟩
  rcases h.2 with h0 | ⟨g, cap, cur, h1, h2, h3⟩
  · exact .inl h0
  · exact .inr ⟨g, cap, cur, h1, by omega, h3⟩
theorem sngG_snoc (pre : List R13) (x : R13) : sngG (pre ++ [x]) = sngG pre ++ [(x.1 : Int)] := by simp [sngG]

set_option maxRecDepth 100000 in
set_option maxHeartbeats 4000000 in
theorem singles_any (s : Nat) (hs : s < 8192) (w : World) : Calls Tryz.prog 188 #[.int .i64 (s : Int)] w fun e w' => ∃ v, e = .returned v ∧ OwL encI 1 3 w' w.heap.size v ((bitsL s).map fun r : Nat => (r : Int)) ∧ Below w.heap.size w w' := by
  have hset : setB (s : Int) = true := by simp [setB]; omega
  have hro : Fence.wide.round = none := rfl
  obtain ⟨i0, hi, hz0, hz1, hz2⟩ := info_parts int_info
  refine (callsIn_wide (n := 9)).1 ?_
  refine callsIn_of_wp_marks Tryz.func188 rfl trivial ?_ hro
  simp only [Tryz.ntmps188, List.size_toArray, List.length_cons, List.length_nil, Nat.reduceAdd, Nat.reduceSub, Array.replicate_succ, Array.replicate_zero, List.push_toArray, List.append_toArray, List.nil_append, List.cons_append]
  have HSET := Lib.hid hset; clear hset
  gi_wp2_with (first | (refine ⟨trivial, ?_⟩; gi_at_call 76; refine (callsIn_wide.2 (isSet_any (s : Int) _)).mono ?_; rintro e w' ⟨rfl, rfl⟩; rw [HSET.out]) | (refine ⟨trivial, ?_⟩; gi_at_call 77; refine (each_in Fence.wide _ trivial hro _ _).mono ?_; rintro e w' ⟨rfl, rfl⟩))
  have bO := Boxed.new w 26 (.slice none 0 0)
  have bN := Boxed.new (w.alloc (.cells #[.slice none 0 0] 26)) 3 (.int .i64 (s : Int))
  rw [World.size_alloc] at bN
  have hB0 : Below w.heap.size w ((w.alloc (.cells #[.slice none 0 0] 26)).alloc (.cells #[.int .i64 (s : Int)] 3)) := ((Below.refl _ w).alloc (Nat.le_refl _) _).alloc (by simp) _
  have bO := bO.alloc (.cells #[.int .i64 (s : Int)] 3)
  have hsz : ((w.alloc (.cells #[.slice none 0 0] 26)).alloc (.cells #[.int .i64 (s : Int)] 3)).heap.size = w.heap.size + 2 := by simp
  obtain ⟨W0, hW0⟩ : ∃ W0, (w.alloc (.cells #[.slice none 0 0] 26)).alloc (.cells #[.int .i64 (s : Int)] 3) = W0 := ⟨_, rfl⟩
  rw [hW0] at bO bN hB0 hsz ⊢
  clear hW0
  refine wpIn_rangeFunc_ownG hro (by omega) (gf := 142) (lb := #[.pointer (some ⟨w.heap.size + 1, 0, none⟩)]) rfl trivial (enters_of Tryz.func142 (by kernel_rfl) rfl)
    (each_stops Fence.wide (9 - 1) trivial hro (by omega) (w.heap.size + 1) s hs _ (by omega) bN.cell) kpB_t (kpB_b (by omega)) (Below.refl _ _) (fun _ => rfl)
    (fun pre W => (∃ v, Boxed W w.heap.size 26 v ∧ W.ownsRow (w.heap.size + 2) 3 1 v (sngG pre).length ((sngG pre).map (Value.int .i64)) ∧ (v = .slice none 0 0 ↔ sngG pre = [])) ∧ Below w.heap.size W0 W)
    (fun _ _ _ => False)
    (OwnFrom.and (Own.from (holdsRow_own (w.heap.size + 2) w.heap.size 26 3 1 (fun pre => (sngG pre).length) (fun pre => (sngG pre).map (Value.int .i64)) (fun pre v => v = .slice none 0 0 ↔ sngG pre = [])) _) (ownFrom_below (by omega) (by omega)))
    (fun _ _ _ _ _ hs _ _ => hs)
    ⟨⟨_, bO, World.ownsRow_nil _ _ _ _, by simp [sngG]⟩, Below.refl _ _⟩
    (fun x => { tmps := #[.int .i64 (s : Int), undef, .slice none 0 0, .pointer (some ⟨w.heap.size, 0, none⟩), .int .i64 (x.1 : Int), .int .i64 (s : Int), .bool true, .bool false, .int .i64 (s : Int), .func (.func 142) #[] #[.pointer (some ⟨w.heap.size + 1, 0, none⟩)], .int .i64 (x.1 : Int), undef, undef, undef, undef, undef], defers := [] }) ?assign ?body ?done ?stop
  case assign =>
    intro l x W K hK
    gi_wp2
    exact hK
  case body =>
    rintro l pre ⟨x, hx⟩ W ⟨⟨v, hv, hrow, hnil⟩, hB⟩ hlt
    have hc := hv.cell
    have hpl : (sngG pre).length ≤ 13 := by unfold sngG; rw [List.length_map]; omega
    have hsW : w.heap.size + 2 ≤ W.heap.size := by have := hB.size; omega
    gi_wp2_with (gi_at_builtin; refine wpListIn_append_own _ rfl _ _ 26 rfl (w.heap.size + 2) 3 i0 (.int .i64 0) 1 8 Tryz.underlying26 hi hz0 hz1 hz2 rfl (by decide) _ _ _ rfl (hrow.alloc _) ⟨W.heap.size, 0, none⟩ 1 1 [.int .i64 (x : Int)] rfl rfl (cell_one_new _ _ _) (by simp [Value.oneCell']) (by unfold maxLen; omega) (by omega) (by simp; omega) ?_; intro v' w1 hown' hgrow _; obtain ⟨g', cap', rfl⟩ := ownsRow_succ hown'; obtain ⟨hv1, hv2, hr2, hk2, hb2⟩ := hv.appended (by decide) (row_mono hrow (show w.heap.size ≤ w.heap.size + 2 by omega)) (by omega) (Nat.le_refl _) (row_mono hown' (show w.heap.size ≤ w.heap.size + 2 by omega)) hgrow; have hc1 := hv1.cell; have hf1 := hv1.frozen)
    have hr3 := hown'.kept (grownBy_setCell' w1 w.heap.size (.slice (some ⟨g', 0, none⟩) ((sngG pre).length + 1) cap')) (.inr (hv1.not_row (by decide) hown').symm)
    have hne : some (w.heap.size + 1) ≠ v.ownBlock := fun e => by
      have := (World.ownsRow.lt hrow _ e.symm).1
      omega
    have hkp : KpB (w.heap.size + 1) W w1 := (hgrow.block (w.heap.size + 1) (by simp; omega) hne).trans (Below.heap_alloc W _ _ (by omega))
    exact ⟨hk2.from _, kpB_t hkp (kpB_set _ (by simp) _), ⟨_, hv2, by rw [sngG_snoc]; simpa using hr3, by rw [sngG_snoc]; simp⟩, hB.trans hb2⟩
  case done =>
    rintro D ys W hD rfl ⟨⟨v, hv, hrow, hnil⟩, hB⟩ hK
    have hc := hv.cell
    gi_wp2
    refine ⟨by simp, .inl ⟨_, _, rfl, run_takeDeferred hK, ?_⟩⟩
    refine ⟨_, results_tmp rfl _ _ _, v, rfl, ?_, (hB0.trans hB).trans (belowK_b (w := w) (Nat.le_refl _) W D _ _ (by omega) hK rfl rfl)⟩
    have hr := row_mono (ownsRow_putObj hrow (.deferred none) hK rfl) (show w.heap.size ≤ w.heap.size + 2 by omega)
    rw [sngG_all] at hr
    unfold OwL
    have e : ∀ l : List Int, l.flatMap encI = l.map (Value.int .i64) := fun l => by
      induction l with
      | nil => rfl
      | cons a l ih => rw [List.flatMap_cons, ih]; rfl
    rw [e]
    exact hr
  case stop =>
    rintro D c pre W _ _ h _
    exact h.elim
end Go.Proofs.YthilkphnjffnhaaGreat
