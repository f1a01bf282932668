/- allen.table. -/
import Derived.Test.YthilkphnjffnhaaGreatSpn
import Derived.Test.YthilkphnjffnhaaGreatIof
import Derived.Test.YthilkphnjffnhaaGreatBts
import Derived.Deep.WholeRow
set_option linter.unusedSimpArgs false
set_option linter.unusedVariables false
namespace Go.Proofs.YthilkphnjffnhaaGreat
open Go.RowKit Go.Shelf

abbrev Tb := Nat → Nat → Nat
def tabV (T : Tb) (i : Nat) : Value := .int .i64 ((T (i / 13) (i % 13) : Nat) : Int)
def tabCells (T : Tb) : Array Value := ((List.range 169).map (tabV T)).toArray
theorem tabCells_size (T : Tb) : (tabCells T).size = 169 := by simp [tabCells]
theorem tabCells_get (T : Tb) {i : Nat} (h : i < 169) : (tabCells T)[i]? = some (tabV T i) := by simp [tabCells, h]
theorem tabCells_at (T : Tb) {p q : Nat} (hp : p < 13) (hq : q < 13) : (tabCells T)[p * 13 + q]? = some (.int .i64 ((T p q : Nat) : Int)) := by
  rw [tabCells_get T (by omega)]
  unfold tabV
  rw [show (p * 13 + q) / 13 = p by omega, show (p * 13 + q) % 13 = q by omega]
theorem tabCells_zero : Tryz.zeroCells330 = tabCells (fun _ _ => 0) := by kernel_rfl
theorem tabCells_step (T : Tb) (x y z : Sp) : (tabCells T).setIfInBounds (relN x y * 13 + relN y z) (.int .i64 ((T (relN x y) (relN y z) ||| 2 ^ relN x z : Nat) : Int)) = tabCells (tabStep T x y z) := by
  have hp := relN_le x y
  have hq := relN_le y z
  apply Array.ext_getElem?
  intro i
  rw [Array.getElem?_setIfInBounds, tabCells_size]
  by_cases h : i < 169
  · rw [tabCells_get _ h, tabCells_get _ h]
    unfold tabV tabStep
    by_cases e : relN x y * 13 + relN y z = i
    · rw [if_pos e, if_pos (by omega), if_pos (by omega)]
      rw [show i / 13 = relN x y by omega, show i % 13 = relN y z by omega]
    · rw [if_neg e, if_neg (by omega)]
  · rw [if_neg (by omega), Array.getElem?_eq_none (by rw [tabCells_size]; omega), Array.getElem?_eq_none (by rw [tabCells_size]; omega)]

/-- the two great blocks: the result's, still as it was made, and the table's -/
structure TabI (w wr : World) (T : Tb) : Prop where
  low : Below w.heap.size w wr
  res : wr.heap[w.heap.size]? = some (.cells (tabCells (fun _ _ => 0)) 330 (0, 0))
  out : wr.heap[w.heap.size + 1]? = some (.cells (tabCells T) 330 (0, 0))
theorem tab_start (w : World) : TabI w ((w.alloc (.cells Tryz.zeroCells330 330)).alloc (.cells Tryz.zeroCells330 330)) (fun _ _ => 0) := by
  rw [tabCells_zero]
  refine ⟨((Below.refl _ _).alloc (Nat.le_refl _) _).alloc (by simp) _, ?_, ?_⟩
  · exact (Below.heap_alloc _ _ _ (by simp)).trans (heap_alloc_new w _)
  · have := heap_alloc_new (w.alloc (.cells (tabCells fun _ _ => 0) 330)) (.cells (tabCells fun _ _ => 0) 330)
    rwa [World.size_alloc] at this
theorem TabI.lt {w wr : World} {T : Tb} (h : TabI w wr T) : w.heap.size + 1 < wr.heap.size := (Array.getElem?_eq_some_iff.1 h.out).1
theorem TabI.below {w wr w' : World} {T : Tb} (h : TabI w wr T) (hb : Below wr.heap.size wr w') : TabI w w' T :=
  ⟨h.low.trans (hb.mono h.low.size), (hb.block _ (by have := h.lt; omega)).trans h.res, (hb.block _ h.lt).trans h.out⟩
theorem TabI.cell {w wr : World} {T : Tb} (h : TabI w wr T) {p q : Nat} (hp : p < 13) (hq : q < 13) : wr.cell? ⟨w.heap.size + 1, p * 13 + q, none⟩ = some (.int .i64 ((T p q : Nat) : Int)) := by
  rw [cell_of_row _ _ _ _ _ _ h.out]; exact tabCells_at T hp hq
theorem TabI.fz {w wr : World} {T : Tb} (h : TabI w wr T) (i : Nat) : wr.frozen? ⟨w.heap.size + 1, i, none⟩ = false := by simp [World.frozen?, h.out]
theorem TabI.step {w wr : World} {T : Tb} (h : TabI w wr T) (x y z : Sp) : TabI w (wr.setCell ⟨w.heap.size + 1, relN x y * 13 + relN y z, none⟩ (.int .i64 ((T (relN x y) (relN y z) ||| 2 ^ relN x z : Nat) : Int))) (tabStep T x y z) := by
  refine ⟨h.low.setCell (by simp) _, ?_, ?_⟩
  · rw [Below.heap_setCell _ _ _ _ (by simp)]; exact h.res
  · simp only [World.setCell, Array.getElem?_modify]
    rw [h.out]
    simp only [if_true, Option.map_some, Option.isSome_none, Bool.false_eq_true, if_false]
    rw [tabCells_step]

theorem rd_far {α : Type} {enc : α → List Value} {k : Nat} {w : World} {A : Option Addr} {xs : List α} (h : RdS enc k w A xs) {q : Addr} (hq : ∀ p, A = some p → p.block ≠ q.block) (v : Value) : RdS enc k (w.setCell q v) A xs := by
  refine ⟨h.len, fun i x hx => ?_⟩
  obtain ⟨b, off, e, hb, hc⟩ := h.cells i x hx
  refine ⟨b, off, e, by simpa [World.setCell] using hb, fun j u hu => ?_⟩
  rw [World.cell?_setCell_other _ _ _ _ (fun e2 => hq _ e (by rw [e2]))]
  exact hc j u hu
/-- with the list of spans beside it -/
structure TabJ (w wr : World) (g : Nat) (T : Tb) : Prop where
  ti : TabI w wr T
  rd : RdS Sp.enc 2 wr (some ⟨g, 0, none⟩) spL
  gl : w.heap.size + 1 < g
theorem TabJ.below {w wr w' : World} {g : Nat} {T : Tb} (h : TabJ w wr g T) (hb : Below wr.heap.size wr w') : TabJ w w' g T := ⟨h.ti.below hb, h.rd.below hb, h.gl⟩
theorem TabJ.alloc {w wr : World} {g : Nat} {T : Tb} (h : TabJ w wr g T) (o : Obj) : TabJ w (wr.alloc o) g T := h.below ((Below.refl _ _).alloc (Nat.le_refl _) _)
theorem TabJ.step {w wr : World} {g : Nat} {T : Tb} (h : TabJ w wr g T) (x y z : Sp) : TabJ w (wr.setCell ⟨w.heap.size + 1, relN x y * 13 + relN y z, none⟩ (.int .i64 ((T (relN x y) (relN y z) ||| 2 ^ relN x z : Nat) : Int))) g (tabStep T x y z) :=
  ⟨h.ti.step x y z, rd_far h.rd (fun p e => by cases e; have := h.gl; show g ≠ w.heap.size + 1; omega) _, h.gl⟩
/-- a span in a block of its own, beyond block m -/
structure BoxS (m B : Nat) (wr : World) (s : Sp) : Prop where
  c0 : wr.cell? ⟨B, 0, none⟩ = some (.int .i64 s.a)
  c1 : wr.cell? ⟨B, 1, none⟩ = some (.int .i64 s.b)
  lt : B < wr.heap.size
  mb : m < B
theorem BoxS.below {m B : Nat} {wr w' : World} {s : Sp} (h : BoxS m B wr s) (hb : Below wr.heap.size wr w') : BoxS m B w' s :=
  ⟨(hb.cell (p := ⟨B, 0, none⟩) h.lt).trans h.c0, (hb.cell (p := ⟨B, 1, none⟩) h.lt).trans h.c1, by have := h.lt; have := hb.size; omega, h.mb⟩
theorem BoxS.alloc {m B : Nat} {wr : World} {s : Sp} (h : BoxS m B wr s) (o : Obj) : BoxS m B (wr.alloc o) s := h.below ((Below.refl _ _).alloc (Nat.le_refl _) _)
theorem BoxS.new {m : Nat} (wr : World) (s : Sp) (h : m < wr.heap.size) : BoxS m wr.heap.size (wr.alloc (.cells #[.int .i64 s.a, .int .i64 s.b] 58)) s :=
  ⟨by rw [World.cell?_alloc_new]; rfl, by rw [World.cell?_alloc_new]; rfl, by simp, h⟩
theorem BoxS.set {m B : Nat} {wr : World} {s : Sp} (h : BoxS m B wr s) (off : Nat) (v : Value) : BoxS m B (wr.setCell ⟨m, off, none⟩ v) s := by
  have hne : ∀ o, (⟨m, off, none⟩ : Addr) ≠ ⟨B, o, none⟩ := fun o e => absurd (congrArg Addr.block e) (Nat.ne_of_lt h.mb)
  exact ⟨by rw [World.cell?_setCell_other _ _ _ _ (hne 0)]; exact h.c0, by rw [World.cell?_setCell_other _ _ _ _ (hne 1)]; exact h.c1, by simpa [World.setCell] using h.lt, h.mb⟩

theorem tabZ_take {T : Tb} {x y : Sp} {l : List Sp} {k : Nat} (h : k < l.length) : tabZ T x y (l.take (k + 1)) = tabStep (tabZ T x y (l.take k)) x y l[k] := by
  unfold tabZ; rw [List.take_succ_eq_append_getElem h, List.foldl_append]; rfl
theorem tabY_take {T : Tb} {x : Sp} {l : List Sp} {k : Nat} (h : k < l.length) : tabY T x (l.take (k + 1)) = tabZ (tabY T x (l.take k)) x l[k] spL := by
  unfold tabY; rw [List.take_succ_eq_append_getElem h, List.foldl_append]; rfl
theorem tabX_take {l : List Sp} {k : Nat} (h : k < l.length) : tabX (l.take (k + 1)) = tabY (tabX (l.take k)) l[k] spL := by
  unfold tabX; rw [List.take_succ_eq_append_getElem h, List.foldl_append]; simp only [List.foldl_cons, List.foldl_nil]
theorem spL_len : spL.length = 15 := rfl
theorem spL_in : ∀ s ∈ spL, 0 ≤ s.a ∧ s.a < s.b ∧ s.b ≤ 5 := by decide
theorem spL_valid (s : Sp) (h : s ∈ spL) : validB s.a s.b = true := by
  have := spL_in s h
  exact validB_iff.2 (by omega)
theorem iof_sp {x y : Sp} (hx : x ∈ spL) (hy : y ∈ spL) (w : World) : Calls Tryz.prog 85 #[x.val, y.val] w fun e w' => e = .returned (.int .i64 ((relN x y : Nat) : Int)) ∧ Below w.heap.size w w' := by
  have := iof_yes x y w (spL_valid x hx) (spL_valid y hy)
  have e : ((relN x y : Nat) : Int) = relF x y := by have := relF_bd x y; unfold relN; omega
  rw [e]; exact this

theorem tabCells_one (T : Tb) : (tabCells T).all (·.oneCell') = true := by
  rw [Array.all_eq_true_iff_forall_mem]
  intro v hv
  simp only [tabCells, List.mem_toArray, List.mem_map] at hv
  obtain ⟨i, _, rfl⟩ := hv
  rfl
theorem info330 : (Tryz.prog.info? 330).map (·.size) = some 169 := by kernel_rfl
/-- the table handed over to the result's block -/
theorem tab_end {w wr : World} {T : Tb} (h : TabI w wr T) : Below w.heap.size w (wr.setRow w.heap.size (tabCells T)) ∧ (wr.setRow w.heap.size (tabCells T)).heap[w.heap.size]? = some (.cells (tabCells T) 330 (0, 0)) := by
  refine ⟨⟨h.low.os, h.low.tape, h.low.output, by have := h.low.size; simpa [World.setRow] using this, fun k hk => ?_⟩, setRow_heap wr w.heap.size _ _ 330 _ h.res⟩
  rw [← h.low.block k hk]
  simp only [World.setRow, Array.getElem?_modify]
  rw [if_neg (by omega)]

set_option maxRecDepth 100000 in
set_option maxHeartbeats 8000000 in
theorem table_any (w : World) : Calls Tryz.prog 298 #[] w fun e w' => e = .returned (.agg (tabCells tabF)) ∧ Below w.heap.size w w' := by
  go_enter Tryz.func298, Tryz.ntmps298
  go_wp2_with fail
  have HT := Lib.hid (tab_start w)
  generalize (w.alloc (.cells Tryz.zeroCells330 330)).alloc (.cells Tryz.zeroCells330 330) = w0 at *
  refine (spans_any w0).mono ?_
  rintro e w1 ⟨v, rfl, ho, hb1⟩
  obtain ⟨g, cap, hv, hg1, hg2⟩ : ∃ g cap, v = .slice (some ⟨g, 0, none⟩) 15 cap ∧ w0.heap.size ≤ g ∧ g < w1.heap.size := by
    rcases ho.form with ⟨_, h⟩ | h
    · exact absurd h (by decide)
    · exact h
  subst hv
  obtain ⟨A, c, e, hr⟩ := OwL.rd ho enc55.len (by rw [spL_len]; omega)
  have HJ := Lib.hid (show TabJ w w1 g (fun _ _ => 0) from ⟨HT.out.below hb1, by cases e; exact hr, by have := HT.out.lt; omega⟩)
  clear hr ho HT hb1 hg1 hg2 e
  go_wp2
  go_loopg [13] 15 (fun gg s13 wr => ∃ k : Nat, k ≤ 15 ∧ 15 - k ≤ gg ∧ s13 = .int .i64 (k : Int) ∧ Aside (TabJ w wr g (tabX (spL.take k))))
  case atStart => exact ⟨0, by omega, by omega, rfl, HJ.out⟩
  case round =>
    obtain ⟨k, hk, hg, rfl, HI⟩ := hrel
    clear HJ
    by_cases hlt : k < 15
    · have hltz : (k : Int) < 15 := by omega
      have hkl : k < spL.length := by rw [spL_len]; exact hlt
      have hmem : spL[k] ∈ spL := List.getElem_mem hkl
      have HTK := Lib.hid (tabX_take hkl)
      obtain ⟨_, _, e, hb1, c0, c1⟩ := HI.out.rd.at2 hkl
      cases e
      rw [List.getD_eq_getElem?_getD, List.getElem?_eq_getElem hkl] at c0 c1
      simp only [Option.getD_some, Nat.zero_add] at c0 c1
      generalize spL[k] = x at *
      have HX := Lib.hid hmem
      clear hmem hkl
      obtain ⟨xa, xb⟩ := x
      simp only at c0 c1
      obtain ⟨w2, rfl⟩ : ∃ w2 : World, w2 = wr := ⟨_, rfl⟩
      have HJ2 := Lib.hid (HI.out.alloc (.cells #[.int .i64 xa, .int .i64 xb] 58))
      have HB2 := Lib.hid (BoxS.new w2 ⟨xa, xb⟩ HI.out.ti.lt)
      have HT1 := Lib.hid (tabX_lt (spL.take k))
      generalize tabX (spL.take k) = T1 at *
      clear HI
      go_wp2
      go_loopg [19] 15 (fun gg s19 wr => ∃ j : Nat, j ≤ 15 ∧ 15 - j ≤ gg ∧ s19 = .int .i64 (j : Int) ∧ Aside (TabJ w wr g (tabY T1 ⟨xa, xb⟩ (spL.take j))) ∧ Aside (BoxS (w.heap.size + 1) w2.heap.size wr ⟨xa, xb⟩))
      case atStart => exact ⟨0, by omega, by omega, rfl, HJ2.out, HB2.out⟩
      case round =>
        obtain ⟨j, hj, hg2, rfl, HI, HB⟩ := hrel
        clear HJ2 HB2 c0 c1
        by_cases hlt2 : j < 15
        · have hltz2 : (j : Int) < 15 := by omega
          have hkl : j < spL.length := by rw [spL_len]; exact hlt2
          have hmem : spL[j] ∈ spL := List.getElem_mem hkl
          have HTJ := Lib.hid (tabY_take (T := T1) (x := ⟨xa, xb⟩) hkl)
          obtain ⟨_, _, e, hb3, c0, c1⟩ := HI.out.rd.at2 hkl
          cases e
          rw [List.getD_eq_getElem?_getD, List.getElem?_eq_getElem hkl] at c0 c1
          simp only [Option.getD_some, Nat.zero_add] at c0 c1
          generalize spL[j] = y at *
          have HY := Lib.hid hmem
          clear hmem hkl
          obtain ⟨ya, yb⟩ := y
          simp only at c0 c1
          obtain ⟨w3, rfl⟩ : ∃ w3 : World, w3 = wr := ⟨_, rfl⟩
          have HJ3 := Lib.hid (HI.out.alloc (.cells #[.int .i64 ya, .int .i64 yb] 58))
          have HBY := Lib.hid (BoxS.new w3 ⟨ya, yb⟩ HI.out.ti.lt)
          have HBX := Lib.hid (HB.out.alloc (.cells #[.int .i64 ya, .int .i64 yb] 58))
          have HT2 := Lib.hid (show BdT (tabY T1 ⟨xa, xb⟩ (spL.take j)) from tabY_lt _ HT1.out)
          generalize tabY T1 ⟨xa, xb⟩ (spL.take j) = T2 at *
          have HOF := Lib.hid (fun W => iof_sp HX.out HY.out W)
          have x0 := HB.out.c0
          have x1 := HB.out.c1
          have x2 := HB.out.lt
          have hp := Lib.hid (relN_le ⟨xa, xb⟩ ⟨ya, yb⟩)
          obtain ⟨p, hpe⟩ : ∃ p, p = relN ⟨xa, xb⟩ ⟨ya, yb⟩ := ⟨_, rfl⟩
          rw [← hpe] at HOF hp
          have HPE := Lib.hid hpe
          clear HI HB hpe
          go_wp2_with fail
          refine (HOF.out _).mono ?_
          rintro e w4 ⟨rfl, hb4⟩
          have HJ4 := Lib.hid (HJ3.out.below hb4)
          have HBX4 := Lib.hid (HBX.out.below hb4)
          have HBY4 := Lib.hid (HBY.out.below hb4)
          clear HJ3 HBX HBY hb4 x0 x1 x2 c0 c1 HOF
          go_wp2
          go_loopg [28] 15 (fun gg s28 wr => ∃ m : Nat, m ≤ 15 ∧ 15 - m ≤ gg ∧ s28 = .int .i64 (m : Int) ∧ Aside (TabJ w wr g (tabZ T2 ⟨xa, xb⟩ ⟨ya, yb⟩ (spL.take m))) ∧ Aside (BoxS (w.heap.size + 1) w2.heap.size wr ⟨xa, xb⟩) ∧ Aside (BoxS (w.heap.size + 1) w3.heap.size wr ⟨ya, yb⟩))
          case atStart => exact ⟨0, by omega, by omega, rfl, HJ4.out, HBX4.out, HBY4.out⟩
          case round =>
            obtain ⟨m, hm, hg3, rfl, HI, HBX, HBY⟩ := hrel
            clear HJ4 HBX4 HBY4
            by_cases hlt3 : m < 15
            · have hltz3 : (m : Int) < 15 := by omega
              have hkl : m < spL.length := by rw [spL_len]; exact hlt3
              have hmem : spL[m] ∈ spL := List.getElem_mem hkl
              have HTM := Lib.hid (tabZ_take (T := T2) (x := ⟨xa, xb⟩) (y := ⟨ya, yb⟩) hkl)
              obtain ⟨_, _, e, hb5, c0, c1⟩ := HI.out.rd.at2 hkl
              cases e
              rw [List.getD_eq_getElem?_getD, List.getElem?_eq_getElem hkl] at c0 c1
              simp only [Option.getD_some, Nat.zero_add] at c0 c1
              generalize spL[m] = z at *
              have HZ := Lib.hid hmem
              clear hmem hkl
              obtain ⟨za, zb⟩ := z
              simp only at c0 c1
              obtain ⟨w5, rfl⟩ : ∃ w5 : World, w5 = wr := ⟨_, rfl⟩
              have HJ5 := Lib.hid (HI.out.alloc (.cells #[.int .i64 za, .int .i64 zb] 58))
              have HBX5 := Lib.hid (HBX.out.alloc (.cells #[.int .i64 za, .int .i64 zb] 58))
              have HBY5 := Lib.hid (HBY.out.alloc (.cells #[.int .i64 za, .int .i64 zb] 58))
              have HYZ := Lib.hid (fun W => iof_sp HY.out HZ.out W)
              have HXZ := Lib.hid (fun W => iof_sp HX.out HZ.out W)
              obtain ⟨q, hqe⟩ : ∃ q, q = relN ⟨ya, yb⟩ ⟨za, zb⟩ := ⟨_, rfl⟩
              obtain ⟨r, hre⟩ : ∃ r, r = relN ⟨xa, xb⟩ ⟨za, zb⟩ := ⟨_, rfl⟩
              have hq12 : q ≤ 12 := by rw [hqe]; exact relN_le _ _
              have hr12 : r ≤ 12 := by rw [hre]; exact relN_le _ _
              rw [← hqe] at HYZ
              rw [← hre] at HXZ
              have HQE := Lib.hid hqe; have HRE := Lib.hid hre
              clear hqe hre
              have hp12 : p ≤ 12 := hp.out
              have hp13 : (p : Int) < 13 := by omega
              have hq13 : (q : Int) < 13 := by omega
              have hp13' : p < 13 := by omega
              have hq13' : q < 13 := by omega
              have hTlt : tabZ T2 ⟨xa, xb⟩ ⟨ya, yb⟩ (spL.take m) p q < 8192 := tabZ_lt _ (HT2.out) p q
              generalize tabZ T2 ⟨xa, xb⟩ ⟨ya, yb⟩ (spL.take m) = T3 at *
              obtain ⟨s, hs⟩ : ∃ s, s = T3 p q := ⟨_, rfl⟩
              obtain ⟨y2, hy2⟩ : ∃ y2, y2 = 2 ^ r := ⟨_, rfl⟩
              have hyl : y2 < 8192 := by rw [hy2]; exact Nat.lt_of_lt_of_le (Nat.pow_lt_pow_right (by omega) (show r < 13 by omega)) (Nat.le_refl _)
              have hsh : IntKind.i64.wrap (2 ^ r) = (y2 : Int) := by rw [hy2]; exact shl_one (by omega)
              rw [← hs] at hTlt
              have hor := or_i64 s y2 (by omega) (by omega)
              have ct := HI.out.ti.cell (p := p) (q := q) (by omega) (by omega)
              have ft := HI.out.ti.fz (p * 13 + q)
              have gl := HI.out.ti.lt
              rw [← hs] at ct
              have x0 := HBX.out.c0
              have x1 := HBX.out.c1
              have x2 := HBX.out.lt
              have y0 := HBY.out.c0
              have y1 := HBY.out.c1
              have y2' := HBY.out.lt
              have x2' : w2.heap.size < w5.heap.size + 1 := by omega
              have y2'' : w3.heap.size < w5.heap.size + 1 := by omega
              have gl' : w.heap.size + 1 < w5.heap.size + 1 := by omega
              have HS := Lib.hid hs; have HY2 := Lib.hid hy2
              clear HI HBX HBY hs hy2
              go_wp2
              refine wp_region_ext_tail 14 (by kernel_rfl) (by kernel_rfl) ?_
              simp only [List.take_succ_cons, List.take_zero, List.drop_succ_cons, List.drop_zero]
              repeat (refine wpQuiet_step (fun K hK => ?_); go_simp; (refine hK _ ?_; clear hK K))
              refine wpQuiet_step (fun K hK => ?_)
              go_simp
              apply Exists.intro
              refine ⟨fun _ => ?_, hK _ ?_⟩
              · exact calls_ext (HYZ.out _)
              clear hK K
              repeat (refine wpQuiet_step (fun K hK => ?_); go_simp; (refine hK _ ?_; clear hK K))
              refine wpQuiet_step (fun K hK => ?_)
              go_simp
              apply Exists.intro
              refine ⟨fun _ => ?_, hK _ ?_⟩
              · exact calls_ext (HXZ.out _)
              clear hK K
              repeat (refine wpQuiet_step (fun K hK => ?_); go_simp; (refine hK _ ?_; clear hK K))
              refine wpQuiet_nil ?_
              intro x
              have STEP' : Aside (TabJ w (((w5.alloc (.cells #[.int .i64 za, .int .i64 zb] 58)).ext x).setCell ⟨w.heap.size + 1, p * 13 + q, none⟩ (.int .i64 ((s ||| y2 : Nat) : Int))) g (tabZ T2 ⟨xa, xb⟩ ⟨ya, yb⟩ (spL.take (m + 1)))) := by
                have h := (HJ5.out.below (below_ext _ x)).step ⟨xa, xb⟩ ⟨ya, yb⟩ ⟨za, zb⟩
                rw [← HPE.out, ← HQE.out, ← HRE.out, ← HS.out, ← HY2.out] at h
                rw [HTM.out]; exact h
              have BX' : Aside (BoxS (w.heap.size + 1) w2.heap.size (((w5.alloc (.cells #[.int .i64 za, .int .i64 zb] 58)).ext x).setCell ⟨w.heap.size + 1, p * 13 + q, none⟩ (.int .i64 ((s ||| y2 : Nat) : Int))) ⟨xa, xb⟩) := (HBX5.out.below (below_ext _ x)).set _ _
              have BY' : Aside (BoxS (w.heap.size + 1) w3.heap.size (((w5.alloc (.cells #[.int .i64 za, .int .i64 zb] 58)).ext x).setCell ⟨w.heap.size + 1, p * 13 + q, none⟩ (.int .i64 ((s ||| y2 : Nat) : Int))) ⟨ya, yb⟩) := (HBY5.out.below (below_ext _ x)).set _ _
              clear HBX5 HBY5 HJ5 HTM HS HY2 HQE HRE
              go_wp2
              go_roundg (15 - (m + 1))
              case measure => omega
              case rel => exact ⟨m + 1, by omega, by omega, by go_num, STEP', BX', BY'⟩
            · obtain rfl : m = 15 := by omega
              have HI' : Aside (TabJ w wr g (tabY T1 ⟨xa, xb⟩ (spL.take (j + 1)))) := by
                rw [HTJ.out]; exact HI.out
              clear HI
              go_wp2
              go_roundg (15 - (j + 1))
              case measure => omega
              case rel => exact ⟨j + 1, by omega, by omega, by go_num, HI', HBX⟩
        · obtain rfl : j = 15 := by omega
          have HI' : Aside (TabJ w wr g (tabX (spL.take (k + 1)))) := by
            rw [HTK.out]; exact HI.out
          clear HI
          go_wp2
          go_roundg (15 - (k + 1))
          case measure => omega
          case rel => exact ⟨k + 1, by omega, by omega, by go_num, HI'⟩
    · obtain rfl : k = 15 := by omega
      have HT : Aside (TabJ w wr g tabF) := HI
      clear HI
      have hend := Lib.hid (tab_end HT.out.ti)
      have h1 := Lib.hid (show wr.heap[w.heap.size + 1]? = some (.cells (tabCells tabF) 330 (0, 0)) from HT.out.ti.out)
      have h2 := Lib.hid HT.out.ti.res
      have hone := Lib.hid (tabCells_one tabF)
      have hsz := Lib.hid (show (Tryz.prog.info? 330).map (·.size) = some (tabCells tabF).size by rw [tabCells_size]; exact info330)
      have hsz2 := Lib.hid (show (tabCells fun _ _ => 0).size = (tabCells tabF).size by rw [tabCells_size, tabCells_size])
      clear HT
      obtain ⟨cs, hcs⟩ : ∃ cs, cs = tabCells tabF := ⟨_, rfl⟩
      rw [← hcs] at hend h1 hone hsz hsz2
      have HCS := Lib.hid hcs
      clear hcs
      go_wp2_with (first
        | (refine wpList_load_row rfl 330 _ rfl (w.heap.size + 1) rfl 330 cs (0, 0) _ h1.out Tryz.underlying330 rfl hsz.out ?_)
        | (refine wpList_store_row rfl 330 _ _ rfl w.heap.size cs rfl rfl 330 _ h2.out hsz.out hsz2.out hone.out ?_))
      exact bodyPost_ret (results_cell_row Tryz.results298 _ _ w.heap.size 330 cs (0, 0) _ rfl hend.out.2 Tryz.underlying330 rfl hsz.out) rfl ⟨by rw [HCS.out], hend.out.1⟩
end Go.Proofs.YthilkphnjffnhaaGreat
