/- network.example, sign, signs: where the first pair of spans that bears a relation is known. -/
import Derived.Test.YthilkphnjffnhaaGreatIof
import Derived.Test.YthilkphnjffnhaaGreatTab
import Derived.BigRegion
import Derived.IntWalk
set_option linter.unusedSimpArgs false
set_option linter.unusedVariables false
namespace Go.Proofs.YthilkphnjffnhaaGreat
open Go.RowKit Go.Shelf

def exX (i : Nat) : Int := [0, 10, 12, 20, 25].getD i 0
def exY (j : Nat) : Int := [5, 10, 17, 20, 28].getD j 0
def exHit (r : Nat) (i j : Nat) : Bool := decide (exX i < exY j) && decide (relF ⟨exX i, exY j⟩ ⟨10, 20⟩ = (r : Int))
/-- (i0, j0) is the first hit -/
def exFirst (r i0 j0 : Nat) : Bool := exHit r i0 j0 && (List.range 5).all fun i => (List.range 5).all fun j => !(exHit r i j) || decide (i0 < i ∨ (i0 = i ∧ j0 ≤ j))
theorem exFirst_hit {r i0 j0 : Nat} (h : exFirst r i0 j0 = true) : exHit r i0 j0 = true := by
  simp only [exFirst, Bool.and_eq_true] at h; exact h.1
theorem exFirst_no {r i0 j0 i j : Nat} (h : exFirst r i0 j0 = true) (hi : i < 5) (hj : j < 5) (hb : i < i0 ∨ (i = i0 ∧ j < j0)) : exHit r i j = false := by
  simp only [exFirst, Bool.and_eq_true, List.all_eq_true, List.mem_range] at h
  have := h.2 i hi j hj
  cases e : exHit r i j with
  | false => rfl
  | true => rw [e] at this; simp at this; omega
theorem exX_bd : ∀ i, i < 5 → 0 ≤ exX i ∧ exX i ≤ 25 := by decide
theorem exY_bd : ∀ i, i < 5 → 5 ≤ exY i ∧ exY i ≤ 28 := by decide
theorem ex_rel {i j : Nat} (hi : i < 5) (hj : j < 5) (hlt : exX i < exY j) (w : World) : Calls Tryz.prog 85 #[.agg #[.int .i64 (exX i), .int .i64 (exY j)], .agg #[.int .i64 10, .int .i64 20]] w fun e w' => e = .returned (.int .i64 (relF ⟨exX i, exY j⟩ ⟨10, 20⟩)) ∧ Below w.heap.size w w' := by
  have h1 := exX_bd i hi
  have h2 := exY_bd j hj
  exact iof_yes ⟨exX i, exY j⟩ ⟨10, 20⟩ w (validB_iff.2 (by simp only; omega)) (validB_iff.2 (by simp only; omega))
theorem exX_cells (w : World) {i : Nat} (hi : i < 5) : (w.alloc (.cells #[.int .i64 0, .int .i64 10, .int .i64 12, .int .i64 20, .int .i64 25] 3)).cell? ⟨w.heap.size, i, none⟩ = some (.int .i64 (exX i)) := by
  rw [World.cell?_alloc_new]
  rcases i with _ | _ | _ | _ | _ | i
  all_goals first | rfl | omega
theorem exY_cells (w : World) {i : Nat} (hi : i < 5) : (w.alloc (.cells #[.int .i64 5, .int .i64 10, .int .i64 17, .int .i64 20, .int .i64 28] 3)).cell? ⟨w.heap.size, i, none⟩ = some (.int .i64 (exY i)) := by
  rw [World.cell?_alloc_new]
  rcases i with _ | _ | _ | _ | _ | i
  all_goals first | rfl | omega

structure ExI (w wr : World) : Prop where
  r0 : wr.cell? ⟨w.heap.size, 0, none⟩ = some (.int .i64 0)
  r1 : wr.cell? ⟨w.heap.size, 1, none⟩ = some (.int .i64 0)
  r2 : wr.cell? ⟨w.heap.size + 1, 0, none⟩ = some (.int .i64 0)
  r3 : wr.cell? ⟨w.heap.size + 1, 1, none⟩ = some (.int .i64 0)
  f0 : ∀ i, wr.frozen? ⟨w.heap.size, i, none⟩ = false
  f1 : ∀ i, wr.frozen? ⟨w.heap.size + 1, i, none⟩ = false
  b0 : wr.cell? ⟨w.heap.size + 2, 0, none⟩ = some (.int .i64 10)
  b1 : wr.cell? ⟨w.heap.size + 2, 1, none⟩ = some (.int .i64 20)
  xs : ∀ i, i < 5 → wr.cell? ⟨w.heap.size + 3, i, none⟩ = some (.int .i64 (exX i))
  lt : w.heap.size + 3 < wr.heap.size
  low : Below w.heap.size w wr
theorem exI_start (w : World) : ExI w ((((w.alloc (.cells #[.int .i64 0, .int .i64 0] 58)).alloc (.cells #[.int .i64 0, .int .i64 0] 58)).alloc (.cells #[.int .i64 10, .int .i64 20] 58)).alloc (.cells #[.int .i64 0, .int .i64 10, .int .i64 12, .int .i64 20, .int .i64 25] 3)) := by
  have s1 : w.heap.size + 1 = (w.alloc (.cells #[.int .i64 0, .int .i64 0] 58)).heap.size := by simp
  have s2 : w.heap.size + 2 = ((w.alloc (.cells #[.int .i64 0, .int .i64 0] 58)).alloc (.cells #[.int .i64 0, .int .i64 0] 58)).heap.size := by simp
  have s3 : w.heap.size + 3 = (((w.alloc (.cells #[.int .i64 0, .int .i64 0] 58)).alloc (.cells #[.int .i64 0, .int .i64 0] 58)).alloc (.cells #[.int .i64 10, .int .i64 20] 58)).heap.size := by simp
  refine ⟨?_, ?_, ?_, ?_, fun i => ?_, fun i => ?_, ?_, ?_, fun i hi => ?_, by simp, (((((Below.refl _ _).alloc (Nat.le_refl _) _).alloc (by simp) _).alloc (by simp; omega) _).alloc (by simp; omega) _)⟩
  · rw [World.cell?_alloc_old _ _ _ (by simp; omega), World.cell?_alloc_old _ _ _ (by simp; omega), World.cell?_alloc_old _ _ _ (by simp), World.cell?_alloc_new]; rfl
  · rw [World.cell?_alloc_old _ _ _ (by simp; omega), World.cell?_alloc_old _ _ _ (by simp; omega), World.cell?_alloc_old _ _ _ (by simp), World.cell?_alloc_new]; rfl
  · rw [World.cell?_alloc_old _ _ _ (by simp), World.cell?_alloc_old _ _ _ (by simp), s1, World.cell?_alloc_new]; rfl
  · rw [World.cell?_alloc_old _ _ _ (by simp), World.cell?_alloc_old _ _ _ (by simp), s1, World.cell?_alloc_new]; rfl
  · rw [World.frozen?_alloc_old _ _ _ (by simp; omega), World.frozen?_alloc_old _ _ _ (by simp; omega), World.frozen?_alloc_old _ _ _ (by simp)]
    unfold World.frozen?; rw [heap_alloc_new]; simp
  · rw [World.frozen?_alloc_old _ _ _ (by simp), World.frozen?_alloc_old _ _ _ (by simp), s1]
    unfold World.frozen?; rw [heap_alloc_new]; simp
  · rw [World.cell?_alloc_old _ _ _ (by simp), s2, World.cell?_alloc_new]; rfl
  · rw [World.cell?_alloc_old _ _ _ (by simp), s2, World.cell?_alloc_new]; rfl
  · rw [s3]; exact exX_cells _ hi
theorem ExI.below {w wr w' : World} (h : ExI w wr) (hb : Below wr.heap.size wr w') : ExI w w' := by
  have hl := h.lt
  have c : ∀ b o, b < wr.heap.size → w'.cell? ⟨b, o, none⟩ = wr.cell? ⟨b, o, none⟩ := fun b o hlt => hb.cell (p := ⟨b, o, none⟩) hlt
  have f : ∀ b o, b < wr.heap.size → w'.frozen? ⟨b, o, none⟩ = wr.frozen? ⟨b, o, none⟩ := fun b o hlt => hb.frozen (p := ⟨b, o, none⟩) hlt
  exact ⟨(c _ _ (by omega)).trans h.r0, (c _ _ (by omega)).trans h.r1, (c _ _ (by omega)).trans h.r2, (c _ _ (by omega)).trans h.r3, fun i => (f _ _ (by omega)).trans (h.f0 i), fun i => (f _ _ (by omega)).trans (h.f1 i),
    (c _ _ (by omega)).trans h.b0, (c _ _ (by omega)).trans h.b1, fun i hi => (c _ _ hl).trans (h.xs i hi), by have := hb.size; omega, h.low.trans (hb.mono h.low.size)⟩
theorem ExI.alloc {w wr : World} (h : ExI w wr) (o : Obj) : ExI w (wr.alloc o) := h.below ((Below.refl _ _).alloc (Nat.le_refl _) _)

theorem cell_drew (w : World) (a : Addr) : w.drew.cell? a = w.cell? a := rfl
/-- the two results, written -/
def exEnd (w w3 : World) (x y : Int) : World := ((((w3.setCell ⟨w.heap.size, 0, none⟩ (.int .i64 x)).setCell ⟨w.heap.size, 1, none⟩ (.int .i64 y)).setCell ⟨w.heap.size + 1, 0, none⟩ (.int .i64 10)).setCell ⟨w.heap.size + 1, 1, none⟩ (.int .i64 20)).drew
theorem ex_end {w w3 : World} (x y : Int) (h : ExI w w3) : (exEnd w w3 x y).cell? ⟨w.heap.size, 0, none⟩ = some (.int .i64 x) ∧ (exEnd w w3 x y).cell? ⟨w.heap.size, 1, none⟩ = some (.int .i64 y) ∧
    (exEnd w w3 x y).cell? ⟨w.heap.size + 1, 0, none⟩ = some (.int .i64 10) ∧ (exEnd w w3 x y).cell? ⟨w.heap.size + 1, 1, none⟩ = some (.int .i64 20) ∧ Below w.heap.size w (exEnd w w3 x y) := by
  have hb : ∀ o o', (⟨w.heap.size + 1, o, none⟩ : Addr) ≠ ⟨w.heap.size, o', none⟩ := fun o o' e => by have := congrArg Addr.block e; simp at this
  have hb' : ∀ o o', (⟨w.heap.size, o, none⟩ : Addr) ≠ ⟨w.heap.size + 1, o', none⟩ := fun o o' e => hb _ _ e.symm
  have ho : ∀ b, (⟨b, 1, none⟩ : Addr) ≠ ⟨b, 0, none⟩ := fun b e => by have := congrArg Addr.off e; simp at this
  have ho' : ∀ b, (⟨b, 0, none⟩ : Addr) ≠ ⟨b, 1, none⟩ := fun b e => ho b e.symm
  unfold exEnd
  refine ⟨?_, ?_, ?_, ?_, ((((h.low.setCell (p := ⟨w.heap.size, 0, none⟩) (Nat.le_refl _) _).setCell (p := ⟨w.heap.size, 1, none⟩) (Nat.le_refl _) _).setCell (p := ⟨w.heap.size + 1, 0, none⟩) (Nat.le_succ _) _).setCell (p := ⟨w.heap.size + 1, 1, none⟩) (Nat.le_succ _) _).drew⟩
  · rw [cell_drew, World.cell?_setCell_other _ _ _ _ (hb 1 0), World.cell?_setCell_other _ _ _ _ (hb 0 0), World.cell?_setCell_other _ _ _ _ (ho _), World.cell?_setCell_same _ _ _ h.r0]
  · rw [cell_drew, World.cell?_setCell_other _ _ _ _ (hb 1 1), World.cell?_setCell_other _ _ _ _ (hb 0 1)]
    exact World.cell?_setCell_same _ _ _ (by rw [World.cell?_setCell_other _ _ _ _ (ho' _)]; exact h.r1)
  · rw [cell_drew, World.cell?_setCell_other _ _ _ _ (ho _)]
    exact World.cell?_setCell_same _ _ _ (by rw [World.cell?_setCell_other _ _ _ _ (hb' 1 0), World.cell?_setCell_other _ _ _ _ (hb' 0 0)]; exact h.r2)
  · rw [cell_drew]
    exact World.cell?_setCell_same _ _ _ (by rw [World.cell?_setCell_other _ _ _ _ (ho' _), World.cell?_setCell_other _ _ _ _ (hb' 1 1), World.cell?_setCell_other _ _ _ _ (hb' 0 1)]; exact h.r3)

set_option maxRecDepth 100000 in
set_option maxHeartbeats 8000000 in
theorem example_at (r i0 j0 : Nat) (h5 : i0 < 5) (h6 : j0 < 5) (hf : exFirst r i0 j0 = true) (w : World) :
    Calls Tryz.prog 255 #[.int .i64 (r : Int)] w fun e w' => e = .returned (.tuple #[.agg #[.int .i64 (exX i0), .int .i64 (exY j0)], .agg #[.int .i64 10, .int .i64 20]]) ∧ Below w.heap.size w w' := by
  have HF := Lib.hid hf; clear hf
  go_enter Tryz.func255, Tryz.ntmps255
  go_wp2
  have HI0 := Lib.hid (exI_start w)
  go_loopg [13] 5 (fun gg s13 wr => ∃ i : Nat, i ≤ i0 ∧ 5 - i ≤ gg ∧ s13 = .int .i64 (i : Int) ∧ Aside (ExI w wr))
  case atStart => exact ⟨0, Nat.zero_le _, by omega, rfl, HI0.out⟩
  case round =>
    obtain ⟨i, hi, hg, rfl, HI⟩ := hrel
    clear HI0
    have hi5 : i < 5 := by omega
    have hltz : (i : Int) < 5 := by omega
    obtain ⟨w1, rfl⟩ : ∃ w1 : World, w1 = wr := ⟨_, rfl⟩
    have x0 := HI.out.xs i hi5
    have xl := HI.out.lt
    have HJ := Lib.hid (HI.out.alloc (.cells #[.int .i64 5, .int .i64 10, .int .i64 17, .int .i64 20, .int .i64 28] 3))
    have HY := Lib.hid (show ∀ j, j < 5 → (w1.alloc (.cells #[.int .i64 5, .int .i64 10, .int .i64 17, .int .i64 20, .int .i64 28] 3)).cell? ⟨w1.heap.size, j, none⟩ = some (.int .i64 (exY j)) from fun j hj => exY_cells w1 hj)
    have HL := Lib.hid (show w1.heap.size < (w1.alloc (.cells #[.int .i64 5, .int .i64 10, .int .i64 17, .int .i64 20, .int .i64 28] 3)).heap.size by simp)
    clear HI
    go_wp2
    go_loopg [19] 5 (fun gg s19 wr => ∃ j : Nat, j ≤ 5 ∧ (i = i0 → j ≤ j0) ∧ 5 - j ≤ gg ∧ s19 = .int .i64 (j : Int) ∧ Aside (ExI w wr) ∧ Aside (∀ j, j < 5 → wr.cell? ⟨w1.heap.size, j, none⟩ = some (.int .i64 (exY j))) ∧ w1.heap.size < wr.heap.size)
    case atStart => exact ⟨0, Nat.zero_le _, fun _ => Nat.zero_le _, by omega, rfl, HJ.out, HY.out, HL.out⟩
    case round =>
      obtain ⟨j, hj, hj0, hg2, rfl, HI, HYj, hl1⟩ := hrel
      clear HJ HY HL x0 xl
      by_cases hlt : j < 5
      · have hltz2 : (j : Int) < 5 := by omega
        have y0 := HYj.out j hlt
        have b0 := HI.out.b0
        have b1 := HI.out.b1
        have bl := HI.out.lt
        have bl1 : w.heap.size + 2 < wr.heap.size := by omega
        have bx := exX_bd i hi5
        have by' := exY_bd j hlt
        have HREL := Lib.hid (ex_rel hi5 hlt)
        have HHIT := Lib.hid (fun h : i = i0 ∧ j = j0 => (show exHit r i j = true by rw [h.1, h.2]; exact exFirst_hit HF.out))
        have HNOT := Lib.hid (fun h : ¬ (i = i0 ∧ j = j0) => (show exHit r i j = false from exFirst_no HF.out hi5 hlt (by omega)))
        have HXY := Lib.hid (show i = i0 ∧ j = j0 → exX i = exX i0 ∧ exY j = exY j0 from fun h => ⟨by rw [h.1], by rw [h.2]⟩)
        unfold exHit at HHIT HNOT
        generalize exX i = x at *
        generalize exY j = y at *
        obtain ⟨rel, hrel'⟩ : ∃ rel, rel = relF ⟨x, y⟩ ⟨10, 20⟩ := ⟨_, rfl⟩
        rw [← hrel'] at HREL HHIT HNOT
        clear hrel'
        obtain ⟨w2, rfl⟩ : ∃ w2 : World, w2 = wr := ⟨_, rfl⟩
        have HIA := Lib.hid (HI.out.alloc (.cells #[.int .i64 x, .int .i64 y] 58))
        have HI' := Lib.hid HI; have HYj' := Lib.hid HYj
        clear HI HYj
        obtain ⟨bx1, bx2⟩ := bx
        obtain ⟨by1, by2⟩ := by'
        by_cases hxy : x < y
        · have HR := Lib.hid (HREL.out hxy)
          clear HREL
          by_cases hij : i = i0 ∧ j = j0
          · have hr : rel = (r : Int) := by
              have := HHIT.out hij
              simp at this; exact this.2
            subst hr
            have HXE := Lib.hid (HXY.out hij)
            clear HHIT HNOT HXY hij hj0
            go_wp2_with fail
            refine (HR.out _).mono ?_
            rintro e w3 ⟨rfl, hb3⟩
            have HI3 := Lib.hid (HIA.out.below hb3)
            have z0 := (hb3.cell (p := ⟨w2.heap.size, 0, none⟩) (by simp)).trans (show _ = some (Value.int .i64 x) by rw [World.cell?_alloc_new]; rfl)
            have z1 := (hb3.cell (p := ⟨w2.heap.size, 1, none⟩) (by simp)).trans (show _ = some (Value.int .i64 y) by rw [World.cell?_alloc_new]; rfl)
            have zl : w2.heap.size < w3.heap.size := by have := hb3.size; simp at this; omega
            clear hb3 HIA HI' HYj' HR b0 b1 bl bl1 y0
            have b0 := HI3.out.b0
            have b1 := HI3.out.b1
            have r0 := HI3.out.r0
            have r1 := HI3.out.r1
            have r2 := HI3.out.r2
            have r3 := HI3.out.r3
            have f0 := HI3.out.f0 0
            have f01 := HI3.out.f0 1
            have f1 := HI3.out.f1 0
            have f11 := HI3.out.f1 1
            have bl := HI3.out.lt
            go_wp2
            go_region
            all_goals
              have HEND := ex_end x y HI3.out
              unfold exEnd at HEND
              clear b0 b1 r0 r1 r2 r3 f0 f01 f1 f11 bl z0 z1 zl
              generalize ((((w3.setCell ⟨w.heap.size, 0, none⟩ (.int .i64 x)).setCell ⟨w.heap.size, 1, none⟩ (.int .i64 y)).setCell ⟨w.heap.size + 1, 0, none⟩ (.int .i64 10)).setCell ⟨w.heap.size + 1, 1, none⟩ (.int .i64 20)).drew = W at *
              obtain ⟨g0, g1, g2, g3, g4⟩ := HEND
              go_wp2
              exact bodyPost_ret (v := .tuple #[.agg #[.int .i64 x, .int .i64 y], .agg #[.int .i64 10, .int .i64 20]]) (by simp [results, Tryz.results255, go_sem, g0, g1, g2, g3]) rfl ⟨by rw [HXE.out.1, HXE.out.2], g4⟩
          · have hr : (rel == (r : Int)) = false := by
              have := HNOT.out hij
              simp at this
              simpa using this hxy
            have HN := Lib.hid (show (∀ j', j' < 5 → w2.cell? ⟨w1.heap.size, j', none⟩ = some (.int .i64 (exY j'))) ∧ (i = i0 → j + 1 ≤ j0) from ⟨HYj'.out.out, fun h => by have := hj0 h; omega⟩)
            clear HHIT HNOT HXY hij hj0
            go_wp2_with fail
            refine (HR.out _).mono ?_
            rintro e w3 ⟨rfl, hb3⟩
            have HI3 := Lib.hid (HIA.out.below hb3)
            have HY3 := Lib.hid (show ∀ j', j' < 5 → w3.cell? ⟨w1.heap.size, j', none⟩ = some (.int .i64 (exY j')) from fun j' hj' => (hb3.cell (p := ⟨w1.heap.size, j', none⟩) (by simp; omega)).trans ((World.cell?_alloc_lt _ _ _ hl1).trans (HN.out.1 j' hj')))
            have zl : w1.heap.size < w3.heap.size := by have := hb3.size; simp at this; omega
            clear hb3 HIA HI' HYj' HR b0 b1 bl bl1 y0
            go_wp2
            go_roundg (5 - (j + 1))
            case measure => omega
            case rel => exact ⟨j + 1, by omega, HN.out.2, by omega, by go_num, HI3.out, HY3.out, zl⟩
        · have hij : ¬ (i = i0 ∧ j = j0) := fun h => by
            have := HHIT.out h
            simp at this; omega
          have HN := Lib.hid (show (∀ j', j' < 5 → (w2.alloc (.cells #[.int .i64 x, .int .i64 y] 58)).cell? ⟨w1.heap.size, j', none⟩ = some (.int .i64 (exY j'))) ∧ (i = i0 → j + 1 ≤ j0) from ⟨fun j' hj' => (World.cell?_alloc_lt _ _ _ hl1).trans (HYj'.out.out j' hj'), fun h => by have := hj0 h; omega⟩)
          have zl : w1.heap.size < (w2.alloc (.cells #[.int .i64 x, .int .i64 y] 58)).heap.size := by simp; omega
          clear HHIT HNOT HXY hij hj0 HREL HI' HYj' b0 b1 bl bl1
          go_wp2
          go_roundg (5 - (j + 1))
          case measure => omega
          case rel => exact ⟨j + 1, by omega, HN.out.2, by omega, by go_num, HIA.out, HN.out.1, zl⟩
      · obtain rfl : j = 5 := by omega
        have hii : i < i0 := by omega
        clear HYj hj0
        go_wp2
        go_roundg (5 - (i + 1))
        case measure => omega
        case rel => exact ⟨i + 1, by omega, by omega, by go_num, HI⟩
end Go.Proofs.YthilkphnjffnhaaGreat

/- network.sign, signs. -/
namespace Go.Proofs.YthilkphnjffnhaaGreat
open Go.RowKit Go.Shelf

def sgF (n : Int) : Int := if n < 0 then -1 else if n = 0 then 0 else 1
theorem sgn_any (n : Int) (w : World) : Calls Tryz.prog 256 #[.int .i64 n] w fun e w' => e = .returned (.int .i64 (sgF n)) ∧ w = w' := by
  go_enter Tryz.func256, Tryz.ntmps256
  go_wp2
  all_goals go_ret
  all_goals exact ⟨ret_int (by unfold sgF; (repeat' split) <;> omega), rfl⟩

/-- four cells of a block, written -/
def set4 (w : World) (b : Nat) (a0 a1 a2 a3 : Value) : World := (((w.setCell ⟨b, 0, none⟩ a0).setCell ⟨b, 1, none⟩ a1).setCell ⟨b, 2, none⟩ a2).setCell ⟨b, 3, none⟩ a3
theorem set4_at {w : World} {b : Nat} {u0 u1 u2 u3 : Value} (a0 a1 a2 a3 : Value) (h0 : w.cell? ⟨b, 0, none⟩ = some u0) (h1 : w.cell? ⟨b, 1, none⟩ = some u1) (h2 : w.cell? ⟨b, 2, none⟩ = some u2) (h3 : w.cell? ⟨b, 3, none⟩ = some u3) :
    (set4 w b a0 a1 a2 a3).cell? ⟨b, 0, none⟩ = some a0 ∧ (set4 w b a0 a1 a2 a3).cell? ⟨b, 1, none⟩ = some a1 ∧ (set4 w b a0 a1 a2 a3).cell? ⟨b, 2, none⟩ = some a2 ∧ (set4 w b a0 a1 a2 a3).cell? ⟨b, 3, none⟩ = some a3 := by
  have ne : ∀ i j, i ≠ j → (⟨b, i, none⟩ : Addr) ≠ ⟨b, j, none⟩ := fun i j h e => h (congrArg Addr.off e)
  unfold set4
  refine ⟨?_, ?_, ?_, ?_⟩
  · rw [World.cell?_setCell_other _ _ _ _ (ne 3 0 (by omega)), World.cell?_setCell_other _ _ _ _ (ne 2 0 (by omega)), World.cell?_setCell_other _ _ _ _ (ne 1 0 (by omega)), World.cell?_setCell_same _ _ _ h0]
  · rw [World.cell?_setCell_other _ _ _ _ (ne 3 1 (by omega)), World.cell?_setCell_other _ _ _ _ (ne 2 1 (by omega))]
    exact World.cell?_setCell_same _ _ _ (by rw [World.cell?_setCell_other _ _ _ _ (ne 0 1 (by omega))]; exact h1)
  · rw [World.cell?_setCell_other _ _ _ _ (ne 3 2 (by omega))]
    exact World.cell?_setCell_same _ _ _ (by rw [World.cell?_setCell_other _ _ _ _ (ne 1 2 (by omega)), World.cell?_setCell_other _ _ _ _ (ne 0 2 (by omega))]; exact h2)
  · exact World.cell?_setCell_same _ _ _ (by rw [World.cell?_setCell_other _ _ _ _ (ne 2 3 (by omega)), World.cell?_setCell_other _ _ _ _ (ne 1 3 (by omega)), World.cell?_setCell_other _ _ _ _ (ne 0 3 (by omega))]; exact h3)
theorem set4_low {w0 w : World} {B b : Nat} (a0 a1 a2 a3 : Value) (h : Below B w0 w) (hb : B ≤ b) : Below B w0 (set4 w b a0 a1 a2 a3) :=
  (((h.setCell (p := ⟨b, 0, none⟩) hb _).setCell (p := ⟨b, 1, none⟩) hb _).setCell (p := ⟨b, 2, none⟩) hb _).setCell (p := ⟨b, 3, none⟩) hb _

set_option maxRecDepth 100000 in
set_option maxHeartbeats 8000000 in
theorem signs_at (r i0 j0 : Nat) (h5 : i0 < 5) (h6 : j0 < 5) (hf : exFirst r i0 j0 = true) (w : World) :
    Calls Tryz.prog 189 #[.int .i64 (r : Int)] w fun e w' => e = .returned (.agg #[.int .i64 (sgF (10 - exX i0)), .int .i64 (sgF (20 - exX i0)), .int .i64 (sgF (10 - exY j0)), .int .i64 (sgF (20 - exY j0))]) ∧ Below w.heap.size w w' := by
  have HE := Lib.hid (fun W => example_at r i0 j0 h5 h6 hf W)
  have hx := exX_bd i0 h5
  have hy := exY_bd j0 h6
  clear hf
  generalize exX i0 = x at *
  generalize exY j0 = y at *
  obtain ⟨hx1, hx2⟩ := hx
  obtain ⟨hy1, hy2⟩ := hy
  go_enter Tryz.func189, Tryz.ntmps189
  go_wp2_with fail
  refine (HE.out _).mono ?_
  rintro e w1 ⟨rfl, hb1⟩
  have k0 := (hb1.cell (p := ⟨w.heap.size, 0, none⟩) (by simp)).trans (show _ = some (Value.int .i64 0) by rw [World.cell?_alloc_new]; rfl)
  have k1 := (hb1.cell (p := ⟨w.heap.size, 1, none⟩) (by simp)).trans (show _ = some (Value.int .i64 0) by rw [World.cell?_alloc_new]; rfl)
  have k2 := (hb1.cell (p := ⟨w.heap.size, 2, none⟩) (by simp)).trans (show _ = some (Value.int .i64 0) by rw [World.cell?_alloc_new]; rfl)
  have k3 := (hb1.cell (p := ⟨w.heap.size, 3, none⟩) (by simp)).trans (show _ = some (Value.int .i64 0) by rw [World.cell?_alloc_new]; rfl)
  have kl : w.heap.size < w1.heap.size := by have := hb1.size; simp at this; omega
  have kz : ∀ i, w1.frozen? ⟨w.heap.size, i, none⟩ = false := fun i => (hb1.frozen (p := ⟨w.heap.size, i, none⟩) (by simp)).trans (by unfold World.frozen?; rw [heap_alloc_new]; simp)
  have HB := Lib.hid (show Below w.heap.size w w1 from ((Below.refl _ _).alloc (Nat.le_refl _) _).trans (hb1.mono (by simp)))
  clear hb1 HE
  have T := two_start w1 x y 10 20
  have TB := Lib.hid (show Below w1.heap.size w1 ((w1.alloc (.cells #[.int .i64 x, .int .i64 y] 58)).alloc (.cells #[.int .i64 10, .int .i64 20] 58)) from T.low)
  have c1 := T.c1
  have c2 := T.c2
  have c3 := T.c3
  have c4 := T.c4
  have lt := T.lt
  have lt1 : w1.heap.size < ((w1.alloc (.cells #[.int .i64 x, .int .i64 y] 58)).alloc (.cells #[.int .i64 10, .int .i64 20] 58)).heap.size := by omega
  have lt0 : w.heap.size < ((w1.alloc (.cells #[.int .i64 x, .int .i64 y] 58)).alloc (.cells #[.int .i64 10, .int .i64 20] 58)).heap.size := by omega
  have k0 := (TB.out.cell (p := ⟨w.heap.size, 0, none⟩) kl).trans k0
  have k1 := (TB.out.cell (p := ⟨w.heap.size, 1, none⟩) kl).trans k1
  have k2 := (TB.out.cell (p := ⟨w.heap.size, 2, none⟩) kl).trans k2
  have k3 := (TB.out.cell (p := ⟨w.heap.size, 3, none⟩) kl).trans k3
  have z0 := (TB.out.frozen (p := ⟨w.heap.size, 0, none⟩) kl).trans (kz 0)
  have z1 := (TB.out.frozen (p := ⟨w.heap.size, 1, none⟩) kl).trans (kz 1)
  have z2 := (TB.out.frozen (p := ⟨w.heap.size, 2, none⟩) kl).trans (kz 2)
  have z3 := (TB.out.frozen (p := ⟨w.heap.size, 3, none⟩) kl).trans (kz 3)
  have q1 : IntKind.i64.wrap (10 - x) = 10 - x := IntWalk.i64_in _ (by omega)
  have q2 : IntKind.i64.wrap (20 - x) = 20 - x := IntWalk.i64_in _ (by omega)
  have q3 : IntKind.i64.wrap (10 - y) = 10 - y := IntWalk.i64_in _ (by omega)
  have q4 : IntKind.i64.wrap (20 - y) = 20 - y := IntWalk.i64_in _ (by omega)
  clear T kz kl
  go_wp2
  generalize (w1.alloc (.cells #[.int .i64 x, .int .i64 y] 58)).alloc (.cells #[.int .i64 10, .int .i64 20] 58) = W at *
  refine wp_region_ext_tail 25 (by kernel_rfl) (by kernel_rfl) ?_
  simp only [List.take_succ_cons, List.take_zero, List.drop_succ_cons, List.drop_zero]
  repeat (refine wpQuiet_step (fun K hK => ?_); go_simp; first | (refine hK _ ?_; clear hK K) | (apply Exists.intro; refine ⟨fun _ => ?_, hK _ ?_⟩; (exact calls_ext_same (sgn_any _ _)); clear hK K))
  refine wpQuiet_nil ?_
  intro x0
  have g := set4_at (.int .i64 (sgF (10 - x))) (.int .i64 (sgF (20 - x))) (.int .i64 (sgF (10 - y))) (.int .i64 (sgF (20 - y))) ((W.ext_cell x0 lt0).trans k0) ((W.ext_cell x0 lt0).trans k1) ((W.ext_cell x0 lt0).trans k2) ((W.ext_cell x0 lt0).trans k3)
  have gl := Lib.hid (set4_low (.int .i64 (sgF (10 - x))) (.int .i64 (sgF (20 - x))) (.int .i64 (sgF (10 - y))) (.int .i64 (sgF (20 - y))) (HB.out.trans ((TB.out.trans ((below_ext W x0).mono TB.out.size)).mono HB.out.size)) (Nat.le_refl _))
  have GH := Lib.hid g
  clear g
  go_wp2
  unfold set4 at GH gl
  obtain ⟨g0, g1, g2, g3⟩ := GH.out
  generalize ((((W.ext x0).setCell ⟨w.heap.size, 0, none⟩ (.int .i64 (sgF (10 - x)))).setCell ⟨w.heap.size, 1, none⟩ (.int .i64 (sgF (20 - x)))).setCell ⟨w.heap.size, 2, none⟩ (.int .i64 (sgF (10 - y)))).setCell ⟨w.heap.size, 3, none⟩ (.int .i64 (sgF (20 - y))) = V at *
  exact bodyPost_ret (v := .agg #[.int .i64 (sgF (10 - x)), .int .i64 (sgF (20 - x)), .int .i64 (sgF (10 - y)), .int .i64 (sgF (20 - y))]) (by simp [results, Tryz.results189, go_sem, g0, g1, g2, g3]) rfl ⟨rfl, gl.out⟩
end Go.Proofs.YthilkphnjffnhaaGreat
