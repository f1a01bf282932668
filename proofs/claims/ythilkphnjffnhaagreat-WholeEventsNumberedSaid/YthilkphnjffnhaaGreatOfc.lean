/- composer.of. -/
import Derived.Test.YthilkphnjffnhaaGreatCps
import Derived.Test.YthilkphnjffnhaaGreatExb
set_option linter.unusedSimpArgs false
set_option linter.unusedVariables false
namespace Go.Proofs.YthilkphnjffnhaaGreat
open Go.RowKit Go.Shelf Go.WideMaps

theorem arr66 : ArrKey Tryz.prog 66 3 2 := ⟨Tryz.underlying66, by kernel_rfl, by kernel_rfl, by kernel_rfl⟩
theorem types_succ : ∃ m, Tryz.prog.types.size = m + 1 := ⟨Tryz.prog.types.size - 1, by
  have : 1 ≤ Tryz.prog.types.size := of_decide_eq_true (by kernel_rfl)
  omega⟩
theorem zero3 (w : World) : (zeroValue 3).run Tryz.prog w = .ok (.int .i64 0) w := by kernel_rfl
theorem grown_below_left {w w1 w2 : World} {row : Option Nat} (h : Below w.heap.size w w1) (h2 : w1.grownBy w2 row) : w.grownBy w2 row :=
  ⟨h2.os.trans h.os, h2.tape.trans h.tape, h2.output.trans h.output, Nat.le_trans h.size h2.size, fun k hk hne => (h2.block k (by have := h.size; omega) hne).trans (h.block k hk)⟩

set_option maxRecDepth 100000 in
set_option maxHeartbeats 4000000 in
theorem of193_any (b x y : Nat) (hx : x < 8192) (hy : y < 8192) (w : World) (h : CMap compN w b) :
    Calls Tryz.prog 193 #[.map (some b), .int .i64 (x : Int), .int .i64 (y : Int)] w fun e w' => e = .returned (.int .i64 ((compN x y : Nat) : Int)) ∧ CMap compN w' b ∧ w.grownBy w' (some b) := by
  have HC := Lib.hid (compose_any x y hx hy)
  have H := Lib.hid h
  clear h
  obtain ⟨c, hc⟩ : ∃ c, c = compN x y := ⟨_, rfl⟩
  have HE := Lib.hid hc
  rw [← hc] at HC ⊢
  clear hc
  go_enter Tryz.func193, Tryz.ntmps193
  go_wp2_with (at_lookup; refine wpList_look_cmap rfl _ _ rfl arr66 Tryz.underlying3 types_succ Tryz.underlying193 (zero3 _) rfl H.out hx hy rfl ?_ ?_)
  · refine (HC.out _).mono ?_
    rintro e w1 ⟨rfl, hb1⟩
    have HB := Lib.hid hb1
    have H1 := Lib.hid (H.out.below hb1)
    clear hb1 HC
    go_wp2_with (at_mapUpdate; refine wpList_update_cmap (f := compN) rfl _ _ _ rfl arr66 Tryz.underlying3 types_succ Tryz.underlying193 rfl H1.out hx hy rfl (by rw [← HE.out]; rfl) ?_; intro w2 hc2 hg2)
    go_ret
    exact ⟨rfl, hc2, grown_below_left HB.out hg2⟩
  · go_ret
    exact ⟨by rw [HE.out]; rfl, H.out, World.grownBy.refl _ _⟩
end Go.Proofs.YthilkphnjffnhaaGreat
