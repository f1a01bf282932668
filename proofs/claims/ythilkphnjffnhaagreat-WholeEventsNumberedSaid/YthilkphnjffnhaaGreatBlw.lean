/- The closures of network.Spans at the closed matrix of one constraint 'before' (printed by gen_blw.py). -/
import Derived.Test.YthilkphnjffnhaaGreatSgs
import Derived.Test.YthilkphnjffnhaaGreatScw
set_option linter.unusedSimpArgs false
set_option linter.unusedVariables false
namespace Go.Proofs.YthilkphnjffnhaaGreat
open Go.RowKit Go.Shelf

/-- before -/
def Mc : Mn := fun i j => if i = j then 64 else if i < j then 1 else 4096
theorem sgn6 (w : World) : Calls Tryz.prog 189 #[.int .i64 6] w fun e w' => e = .returned (.agg #[.int .i64 0, .int .i64 1, .int .i64 (-1), .int .i64 0]) ∧ Below w.heap.size w w' := signs_at 6 1 3 (by omega) (by omega) (by decide) w
theorem sgn0 (w : World) : Calls Tryz.prog 189 #[.int .i64 0] w fun e w' => e = .returned (.agg #[.int .i64 1, .int .i64 1, .int .i64 1, .int .i64 1]) ∧ Below w.heap.size w w' := signs_at 0 0 0 (by omega) (by omega) (by decide) w
theorem sgn12 (w : World) : Calls Tryz.prog 189 #[.int .i64 12] w fun e w' => e = .returned (.agg #[.int .i64 (-1), .int .i64 (-1), .int .i64 (-1), .int .i64 (-1)]) ∧ Below w.heap.size w w' := signs_at 12 4 4 (by omega) (by omega) (by decide) w
theorem one_of {w' : World} {B : Nat} {v : Value} {r : Int} (h : OwL encI 1 3 w' B v [r]) : ∃ g c, v = .slice (some ⟨g, 0, none⟩) 1 c ∧ g < w'.heap.size ∧ w'.cell? ⟨g, 0, none⟩ = some (.int .i64 r) := by
  rcases h.form with ⟨_, e⟩ | ⟨g, c, rfl, _, hl⟩
  · cases e
  · refine ⟨g, c, rfl, hl, ?_⟩
    obtain ⟨A, c', e, hr⟩ := OwL.rd h enc57.len (by simp)
    injection e with e1 _ _
    obtain ⟨b, off, e2, _, hc⟩ := hr.s1 (i := 0) (by simp)
    rw [← e1] at e2
    cases e2
    simpa using hc
theorem sng64 (w : World) : Calls Tryz.prog 188 #[.int .i64 64] w fun e w' => ∃ v, e = .returned v ∧ OwL encI 1 3 w' w.heap.size v [6] ∧ Below w.heap.size w w' := singles_any 64 (by omega) w
theorem sng1 (w : World) : Calls Tryz.prog 188 #[.int .i64 1] w fun e w' => ∃ v, e = .returned v ∧ OwL encI 1 3 w' w.heap.size v [0] ∧ Below w.heap.size w w' := singles_any 1 (by omega) w
theorem sng4096 (w : World) : Calls Tryz.prog 188 #[.int .i64 4096] w fun e w' => ∃ v, e = .returned v ∧ OwL encI 1 3 w' w.heap.size v [12] ∧ Below w.heap.size w w' := singles_any 4096 (by omega) w
theorem idx230_0 (a0 a1 a2 a3 : Int) (w : World) : (Instr.index 230 (.agg #[.int .i64 a0, .int .i64 a1, .int .i64 a2, .int .i64 a3]) (.int .i64 0)).run Tryz.prog w = .ok (.int .i64 a0) w := by kernel_rfl
theorem idx230_1 (a0 a1 a2 a3 : Int) (w : World) : (Instr.index 230 (.agg #[.int .i64 a0, .int .i64 a1, .int .i64 a2, .int .i64 a3]) (.int .i64 1)).run Tryz.prog w = .ok (.int .i64 a1) w := by kernel_rfl
theorem idx230_2 (a0 a1 a2 a3 : Int) (w : World) : (Instr.index 230 (.agg #[.int .i64 a0, .int .i64 a1, .int .i64 a2, .int .i64 a3]) (.int .i64 2)).run Tryz.prog w = .ok (.int .i64 a2) w := by kernel_rfl
theorem idx230_3 (a0 a1 a2 a3 : Int) (w : World) : (Instr.index 230 (.agg #[.int .i64 a0, .int .i64 a1, .int .i64 a2, .int .i64 a3]) (.int .i64 3)).run Tryz.prog w = .ok (.int .i64 a3) w := by kernel_rfl
section
variable {W : World} {B lo bo c : Nat} {rb cp : Nat → Nat}

set_option maxRecDepth 100000 in
set_option maxHeartbeats 1000000 in
theorem below_0_0 (hB : W.cell? ⟨B, 0, none⟩ = some (.slice (some ⟨bo, 0, none⟩) 2 c)) (hl : B < W.heap.size) (hM : Mat W lo bo rb cp 2 2 (castN Mc)) :
    Calls Tryz.prog 187 #[.int .i64 0, .int .i64 0, .pointer (some ⟨B, 0, none⟩)] W fun e W' => e = .returned (.bool false) ∧ Below W.heap.size W W' := by
  have o1 : W.cell? ⟨bo, 0, none⟩ = some (.slice (some ⟨rb 0, 0, none⟩) 2 (cp 0)) := hM.outer 0 (by omega)
  have r1 : W.cell? ⟨rb 0, 0, none⟩ = some (.int .i64 64) := hM.row 0 0 (by omega) (by omega)
  clear hM
  go_enter Tryz.func187, Tryz.ntmps187
  go_wp2_with fail
  refine (sng64 _).mono ?_
  rintro e w1 ⟨v, rfl, ho, hb1⟩
  obtain ⟨g, c', rfl, hg, cg⟩ := one_of ho
  have HB := Lib.hid hb1
  clear ho hb1
  go_wp2_with fail
  refine (sgn6 _).mono ?_
  rintro e w2 ⟨rfl, hb2⟩
  have HB2 := Lib.hid (HB.out.trans (hb2.mono HB.out.size))
  clear hb2 HB
  have hix := idx230_0 (0) (1) (-1) (0) w2
  go_wp2
  go_ret
  exact ⟨rfl, HB2.out⟩

set_option maxRecDepth 100000 in
set_option maxHeartbeats 1000000 in
theorem below_0_1 (hB : W.cell? ⟨B, 0, none⟩ = some (.slice (some ⟨bo, 0, none⟩) 2 c)) (hl : B < W.heap.size) (hM : Mat W lo bo rb cp 2 2 (castN Mc)) :
    Calls Tryz.prog 187 #[.int .i64 0, .int .i64 1, .pointer (some ⟨B, 0, none⟩)] W fun e W' => e = .returned (.bool true) ∧ Below W.heap.size W W' := by
  have o1 : W.cell? ⟨bo, 0, none⟩ = some (.slice (some ⟨rb 0, 0, none⟩) 2 (cp 0)) := hM.outer 0 (by omega)
  have r1 : W.cell? ⟨rb 0, 0, none⟩ = some (.int .i64 64) := hM.row 0 0 (by omega) (by omega)
  clear hM
  go_enter Tryz.func187, Tryz.ntmps187
  go_wp2_with fail
  refine (sng64 _).mono ?_
  rintro e w1 ⟨v, rfl, ho, hb1⟩
  obtain ⟨g, c', rfl, hg, cg⟩ := one_of ho
  have HB := Lib.hid hb1
  clear ho hb1
  go_wp2_with fail
  refine (sgn6 _).mono ?_
  rintro e w2 ⟨rfl, hb2⟩
  have HB2 := Lib.hid (HB.out.trans (hb2.mono HB.out.size))
  clear hb2 HB
  have hix := idx230_1 (0) (1) (-1) (0) w2
  go_wp2
  go_ret
  exact ⟨rfl, HB2.out⟩

set_option maxRecDepth 100000 in
set_option maxHeartbeats 1000000 in
theorem below_0_2 (hB : W.cell? ⟨B, 0, none⟩ = some (.slice (some ⟨bo, 0, none⟩) 2 c)) (hl : B < W.heap.size) (hM : Mat W lo bo rb cp 2 2 (castN Mc)) :
    Calls Tryz.prog 187 #[.int .i64 0, .int .i64 2, .pointer (some ⟨B, 0, none⟩)] W fun e W' => e = .returned (.bool true) ∧ Below W.heap.size W W' := by
  have o1 : W.cell? ⟨bo, 0, none⟩ = some (.slice (some ⟨rb 0, 0, none⟩) 2 (cp 0)) := hM.outer 0 (by omega)
  have r1 : W.cell? ⟨rb 0, 1, none⟩ = some (.int .i64 1) := hM.row 0 1 (by omega) (by omega)
  clear hM
  go_enter Tryz.func187, Tryz.ntmps187
  go_wp2_with fail
  refine (sng1 _).mono ?_
  rintro e w1 ⟨v, rfl, ho, hb1⟩
  obtain ⟨g, c', rfl, hg, cg⟩ := one_of ho
  have HB := Lib.hid hb1
  clear ho hb1
  go_wp2_with fail
  refine (sgn0 _).mono ?_
  rintro e w2 ⟨rfl, hb2⟩
  have HB2 := Lib.hid (HB.out.trans (hb2.mono HB.out.size))
  clear hb2 HB
  have hix := idx230_0 (1) (1) (1) (1) w2
  go_wp2
  go_ret
  exact ⟨rfl, HB2.out⟩

set_option maxRecDepth 100000 in
set_option maxHeartbeats 1000000 in
theorem below_0_3 (hB : W.cell? ⟨B, 0, none⟩ = some (.slice (some ⟨bo, 0, none⟩) 2 c)) (hl : B < W.heap.size) (hM : Mat W lo bo rb cp 2 2 (castN Mc)) :
    Calls Tryz.prog 187 #[.int .i64 0, .int .i64 3, .pointer (some ⟨B, 0, none⟩)] W fun e W' => e = .returned (.bool true) ∧ Below W.heap.size W W' := by
  have o1 : W.cell? ⟨bo, 0, none⟩ = some (.slice (some ⟨rb 0, 0, none⟩) 2 (cp 0)) := hM.outer 0 (by omega)
  have r1 : W.cell? ⟨rb 0, 1, none⟩ = some (.int .i64 1) := hM.row 0 1 (by omega) (by omega)
  clear hM
  go_enter Tryz.func187, Tryz.ntmps187
  go_wp2_with fail
  refine (sng1 _).mono ?_
  rintro e w1 ⟨v, rfl, ho, hb1⟩
  obtain ⟨g, c', rfl, hg, cg⟩ := one_of ho
  have HB := Lib.hid hb1
  clear ho hb1
  go_wp2_with fail
  refine (sgn0 _).mono ?_
  rintro e w2 ⟨rfl, hb2⟩
  have HB2 := Lib.hid (HB.out.trans (hb2.mono HB.out.size))
  clear hb2 HB
  have hix := idx230_1 (1) (1) (1) (1) w2
  go_wp2
  go_ret
  exact ⟨rfl, HB2.out⟩

set_option maxRecDepth 100000 in
set_option maxHeartbeats 1000000 in
theorem below_1_0 (hB : W.cell? ⟨B, 0, none⟩ = some (.slice (some ⟨bo, 0, none⟩) 2 c)) (hl : B < W.heap.size) (hM : Mat W lo bo rb cp 2 2 (castN Mc)) :
    Calls Tryz.prog 187 #[.int .i64 1, .int .i64 0, .pointer (some ⟨B, 0, none⟩)] W fun e W' => e = .returned (.bool false) ∧ Below W.heap.size W W' := by
  have o1 : W.cell? ⟨bo, 0, none⟩ = some (.slice (some ⟨rb 0, 0, none⟩) 2 (cp 0)) := hM.outer 0 (by omega)
  have r1 : W.cell? ⟨rb 0, 0, none⟩ = some (.int .i64 64) := hM.row 0 0 (by omega) (by omega)
  clear hM
  go_enter Tryz.func187, Tryz.ntmps187
  go_wp2_with fail
  refine (sng64 _).mono ?_
  rintro e w1 ⟨v, rfl, ho, hb1⟩
  obtain ⟨g, c', rfl, hg, cg⟩ := one_of ho
  have HB := Lib.hid hb1
  clear ho hb1
  go_wp2_with fail
  refine (sgn6 _).mono ?_
  rintro e w2 ⟨rfl, hb2⟩
  have HB2 := Lib.hid (HB.out.trans (hb2.mono HB.out.size))
  clear hb2 HB
  have hix := idx230_2 (0) (1) (-1) (0) w2
  go_wp2
  go_ret
  exact ⟨rfl, HB2.out⟩

set_option maxRecDepth 100000 in
set_option maxHeartbeats 1000000 in
theorem below_1_1 (hB : W.cell? ⟨B, 0, none⟩ = some (.slice (some ⟨bo, 0, none⟩) 2 c)) (hl : B < W.heap.size) (hM : Mat W lo bo rb cp 2 2 (castN Mc)) :
    Calls Tryz.prog 187 #[.int .i64 1, .int .i64 1, .pointer (some ⟨B, 0, none⟩)] W fun e W' => e = .returned (.bool false) ∧ Below W.heap.size W W' := by
  have o1 : W.cell? ⟨bo, 0, none⟩ = some (.slice (some ⟨rb 0, 0, none⟩) 2 (cp 0)) := hM.outer 0 (by omega)
  have r1 : W.cell? ⟨rb 0, 0, none⟩ = some (.int .i64 64) := hM.row 0 0 (by omega) (by omega)
  clear hM
  go_enter Tryz.func187, Tryz.ntmps187
  go_wp2_with fail
  refine (sng64 _).mono ?_
  rintro e w1 ⟨v, rfl, ho, hb1⟩
  obtain ⟨g, c', rfl, hg, cg⟩ := one_of ho
  have HB := Lib.hid hb1
  clear ho hb1
  go_wp2_with fail
  refine (sgn6 _).mono ?_
  rintro e w2 ⟨rfl, hb2⟩
  have HB2 := Lib.hid (HB.out.trans (hb2.mono HB.out.size))
  clear hb2 HB
  have hix := idx230_3 (0) (1) (-1) (0) w2
  go_wp2
  go_ret
  exact ⟨rfl, HB2.out⟩

set_option maxRecDepth 100000 in
set_option maxHeartbeats 1000000 in
theorem below_1_2 (hB : W.cell? ⟨B, 0, none⟩ = some (.slice (some ⟨bo, 0, none⟩) 2 c)) (hl : B < W.heap.size) (hM : Mat W lo bo rb cp 2 2 (castN Mc)) :
    Calls Tryz.prog 187 #[.int .i64 1, .int .i64 2, .pointer (some ⟨B, 0, none⟩)] W fun e W' => e = .returned (.bool true) ∧ Below W.heap.size W W' := by
  have o1 : W.cell? ⟨bo, 0, none⟩ = some (.slice (some ⟨rb 0, 0, none⟩) 2 (cp 0)) := hM.outer 0 (by omega)
  have r1 : W.cell? ⟨rb 0, 1, none⟩ = some (.int .i64 1) := hM.row 0 1 (by omega) (by omega)
  clear hM
  go_enter Tryz.func187, Tryz.ntmps187
  go_wp2_with fail
  refine (sng1 _).mono ?_
  rintro e w1 ⟨v, rfl, ho, hb1⟩
  obtain ⟨g, c', rfl, hg, cg⟩ := one_of ho
  have HB := Lib.hid hb1
  clear ho hb1
  go_wp2_with fail
  refine (sgn0 _).mono ?_
  rintro e w2 ⟨rfl, hb2⟩
  have HB2 := Lib.hid (HB.out.trans (hb2.mono HB.out.size))
  clear hb2 HB
  have hix := idx230_2 (1) (1) (1) (1) w2
  go_wp2
  go_ret
  exact ⟨rfl, HB2.out⟩

set_option maxRecDepth 100000 in
set_option maxHeartbeats 1000000 in
theorem below_1_3 (hB : W.cell? ⟨B, 0, none⟩ = some (.slice (some ⟨bo, 0, none⟩) 2 c)) (hl : B < W.heap.size) (hM : Mat W lo bo rb cp 2 2 (castN Mc)) :
    Calls Tryz.prog 187 #[.int .i64 1, .int .i64 3, .pointer (some ⟨B, 0, none⟩)] W fun e W' => e = .returned (.bool true) ∧ Below W.heap.size W W' := by
  have o1 : W.cell? ⟨bo, 0, none⟩ = some (.slice (some ⟨rb 0, 0, none⟩) 2 (cp 0)) := hM.outer 0 (by omega)
  have r1 : W.cell? ⟨rb 0, 1, none⟩ = some (.int .i64 1) := hM.row 0 1 (by omega) (by omega)
  clear hM
  go_enter Tryz.func187, Tryz.ntmps187
  go_wp2_with fail
  refine (sng1 _).mono ?_
  rintro e w1 ⟨v, rfl, ho, hb1⟩
  obtain ⟨g, c', rfl, hg, cg⟩ := one_of ho
  have HB := Lib.hid hb1
  clear ho hb1
  go_wp2_with fail
  refine (sgn0 _).mono ?_
  rintro e w2 ⟨rfl, hb2⟩
  have HB2 := Lib.hid (HB.out.trans (hb2.mono HB.out.size))
  clear hb2 HB
  have hix := idx230_3 (1) (1) (1) (1) w2
  go_wp2
  go_ret
  exact ⟨rfl, HB2.out⟩

set_option maxRecDepth 100000 in
set_option maxHeartbeats 1000000 in
theorem below_2_0 (hB : W.cell? ⟨B, 0, none⟩ = some (.slice (some ⟨bo, 0, none⟩) 2 c)) (hl : B < W.heap.size) (hM : Mat W lo bo rb cp 2 2 (castN Mc)) :
    Calls Tryz.prog 187 #[.int .i64 2, .int .i64 0, .pointer (some ⟨B, 0, none⟩)] W fun e W' => e = .returned (.bool false) ∧ Below W.heap.size W W' := by
  have o1 : W.cell? ⟨bo, 1, none⟩ = some (.slice (some ⟨rb 1, 0, none⟩) 2 (cp 1)) := hM.outer 1 (by omega)
  have r1 : W.cell? ⟨rb 1, 0, none⟩ = some (.int .i64 4096) := hM.row 1 0 (by omega) (by omega)
  clear hM
  go_enter Tryz.func187, Tryz.ntmps187
  go_wp2_with fail
  refine (sng4096 _).mono ?_
  rintro e w1 ⟨v, rfl, ho, hb1⟩
  obtain ⟨g, c', rfl, hg, cg⟩ := one_of ho
  have HB := Lib.hid hb1
  clear ho hb1
  go_wp2_with fail
  refine (sgn12 _).mono ?_
  rintro e w2 ⟨rfl, hb2⟩
  have HB2 := Lib.hid (HB.out.trans (hb2.mono HB.out.size))
  clear hb2 HB
  have hix := idx230_0 (-1) (-1) (-1) (-1) w2
  go_wp2
  go_ret
  exact ⟨rfl, HB2.out⟩

set_option maxRecDepth 100000 in
set_option maxHeartbeats 1000000 in
theorem below_2_1 (hB : W.cell? ⟨B, 0, none⟩ = some (.slice (some ⟨bo, 0, none⟩) 2 c)) (hl : B < W.heap.size) (hM : Mat W lo bo rb cp 2 2 (castN Mc)) :
    Calls Tryz.prog 187 #[.int .i64 2, .int .i64 1, .pointer (some ⟨B, 0, none⟩)] W fun e W' => e = .returned (.bool false) ∧ Below W.heap.size W W' := by
  have o1 : W.cell? ⟨bo, 1, none⟩ = some (.slice (some ⟨rb 1, 0, none⟩) 2 (cp 1)) := hM.outer 1 (by omega)
  have r1 : W.cell? ⟨rb 1, 0, none⟩ = some (.int .i64 4096) := hM.row 1 0 (by omega) (by omega)
  clear hM
  go_enter Tryz.func187, Tryz.ntmps187
  go_wp2_with fail
  refine (sng4096 _).mono ?_
  rintro e w1 ⟨v, rfl, ho, hb1⟩
  obtain ⟨g, c', rfl, hg, cg⟩ := one_of ho
  have HB := Lib.hid hb1
  clear ho hb1
  go_wp2_with fail
  refine (sgn12 _).mono ?_
  rintro e w2 ⟨rfl, hb2⟩
  have HB2 := Lib.hid (HB.out.trans (hb2.mono HB.out.size))
  clear hb2 HB
  have hix := idx230_1 (-1) (-1) (-1) (-1) w2
  go_wp2
  go_ret
  exact ⟨rfl, HB2.out⟩

set_option maxRecDepth 100000 in
set_option maxHeartbeats 1000000 in
theorem below_2_2 (hB : W.cell? ⟨B, 0, none⟩ = some (.slice (some ⟨bo, 0, none⟩) 2 c)) (hl : B < W.heap.size) (hM : Mat W lo bo rb cp 2 2 (castN Mc)) :
    Calls Tryz.prog 187 #[.int .i64 2, .int .i64 2, .pointer (some ⟨B, 0, none⟩)] W fun e W' => e = .returned (.bool false) ∧ Below W.heap.size W W' := by
  have o1 : W.cell? ⟨bo, 1, none⟩ = some (.slice (some ⟨rb 1, 0, none⟩) 2 (cp 1)) := hM.outer 1 (by omega)
  have r1 : W.cell? ⟨rb 1, 1, none⟩ = some (.int .i64 64) := hM.row 1 1 (by omega) (by omega)
  clear hM
  go_enter Tryz.func187, Tryz.ntmps187
  go_wp2_with fail
  refine (sng64 _).mono ?_
  rintro e w1 ⟨v, rfl, ho, hb1⟩
  obtain ⟨g, c', rfl, hg, cg⟩ := one_of ho
  have HB := Lib.hid hb1
  clear ho hb1
  go_wp2_with fail
  refine (sgn6 _).mono ?_
  rintro e w2 ⟨rfl, hb2⟩
  have HB2 := Lib.hid (HB.out.trans (hb2.mono HB.out.size))
  clear hb2 HB
  have hix := idx230_0 (0) (1) (-1) (0) w2
  go_wp2
  go_ret
  exact ⟨rfl, HB2.out⟩

set_option maxRecDepth 100000 in
set_option maxHeartbeats 1000000 in
theorem below_2_3 (hB : W.cell? ⟨B, 0, none⟩ = some (.slice (some ⟨bo, 0, none⟩) 2 c)) (hl : B < W.heap.size) (hM : Mat W lo bo rb cp 2 2 (castN Mc)) :
    Calls Tryz.prog 187 #[.int .i64 2, .int .i64 3, .pointer (some ⟨B, 0, none⟩)] W fun e W' => e = .returned (.bool true) ∧ Below W.heap.size W W' := by
  have o1 : W.cell? ⟨bo, 1, none⟩ = some (.slice (some ⟨rb 1, 0, none⟩) 2 (cp 1)) := hM.outer 1 (by omega)
  have r1 : W.cell? ⟨rb 1, 1, none⟩ = some (.int .i64 64) := hM.row 1 1 (by omega) (by omega)
  clear hM
  go_enter Tryz.func187, Tryz.ntmps187
  go_wp2_with fail
  refine (sng64 _).mono ?_
  rintro e w1 ⟨v, rfl, ho, hb1⟩
  obtain ⟨g, c', rfl, hg, cg⟩ := one_of ho
  have HB := Lib.hid hb1
  clear ho hb1
  go_wp2_with fail
  refine (sgn6 _).mono ?_
  rintro e w2 ⟨rfl, hb2⟩
  have HB2 := Lib.hid (HB.out.trans (hb2.mono HB.out.size))
  clear hb2 HB
  have hix := idx230_1 (0) (1) (-1) (0) w2
  go_wp2
  go_ret
  exact ⟨rfl, HB2.out⟩

set_option maxRecDepth 100000 in
set_option maxHeartbeats 1000000 in
theorem below_3_0 (hB : W.cell? ⟨B, 0, none⟩ = some (.slice (some ⟨bo, 0, none⟩) 2 c)) (hl : B < W.heap.size) (hM : Mat W lo bo rb cp 2 2 (castN Mc)) :
    Calls Tryz.prog 187 #[.int .i64 3, .int .i64 0, .pointer (some ⟨B, 0, none⟩)] W fun e W' => e = .returned (.bool false) ∧ Below W.heap.size W W' := by
  have o1 : W.cell? ⟨bo, 1, none⟩ = some (.slice (some ⟨rb 1, 0, none⟩) 2 (cp 1)) := hM.outer 1 (by omega)
  have r1 : W.cell? ⟨rb 1, 0, none⟩ = some (.int .i64 4096) := hM.row 1 0 (by omega) (by omega)
  clear hM
  go_enter Tryz.func187, Tryz.ntmps187
  go_wp2_with fail
  refine (sng4096 _).mono ?_
  rintro e w1 ⟨v, rfl, ho, hb1⟩
  obtain ⟨g, c', rfl, hg, cg⟩ := one_of ho
  have HB := Lib.hid hb1
  clear ho hb1
  go_wp2_with fail
  refine (sgn12 _).mono ?_
  rintro e w2 ⟨rfl, hb2⟩
  have HB2 := Lib.hid (HB.out.trans (hb2.mono HB.out.size))
  clear hb2 HB
  have hix := idx230_2 (-1) (-1) (-1) (-1) w2
  go_wp2
  go_ret
  exact ⟨rfl, HB2.out⟩

set_option maxRecDepth 100000 in
set_option maxHeartbeats 1000000 in
theorem below_3_1 (hB : W.cell? ⟨B, 0, none⟩ = some (.slice (some ⟨bo, 0, none⟩) 2 c)) (hl : B < W.heap.size) (hM : Mat W lo bo rb cp 2 2 (castN Mc)) :
    Calls Tryz.prog 187 #[.int .i64 3, .int .i64 1, .pointer (some ⟨B, 0, none⟩)] W fun e W' => e = .returned (.bool false) ∧ Below W.heap.size W W' := by
  have o1 : W.cell? ⟨bo, 1, none⟩ = some (.slice (some ⟨rb 1, 0, none⟩) 2 (cp 1)) := hM.outer 1 (by omega)
  have r1 : W.cell? ⟨rb 1, 0, none⟩ = some (.int .i64 4096) := hM.row 1 0 (by omega) (by omega)
  clear hM
  go_enter Tryz.func187, Tryz.ntmps187
  go_wp2_with fail
  refine (sng4096 _).mono ?_
  rintro e w1 ⟨v, rfl, ho, hb1⟩
  obtain ⟨g, c', rfl, hg, cg⟩ := one_of ho
  have HB := Lib.hid hb1
  clear ho hb1
  go_wp2_with fail
  refine (sgn12 _).mono ?_
  rintro e w2 ⟨rfl, hb2⟩
  have HB2 := Lib.hid (HB.out.trans (hb2.mono HB.out.size))
  clear hb2 HB
  have hix := idx230_3 (-1) (-1) (-1) (-1) w2
  go_wp2
  go_ret
  exact ⟨rfl, HB2.out⟩

set_option maxRecDepth 100000 in
set_option maxHeartbeats 1000000 in
theorem below_3_2 (hB : W.cell? ⟨B, 0, none⟩ = some (.slice (some ⟨bo, 0, none⟩) 2 c)) (hl : B < W.heap.size) (hM : Mat W lo bo rb cp 2 2 (castN Mc)) :
    Calls Tryz.prog 187 #[.int .i64 3, .int .i64 2, .pointer (some ⟨B, 0, none⟩)] W fun e W' => e = .returned (.bool false) ∧ Below W.heap.size W W' := by
  have o1 : W.cell? ⟨bo, 1, none⟩ = some (.slice (some ⟨rb 1, 0, none⟩) 2 (cp 1)) := hM.outer 1 (by omega)
  have r1 : W.cell? ⟨rb 1, 1, none⟩ = some (.int .i64 64) := hM.row 1 1 (by omega) (by omega)
  clear hM
  go_enter Tryz.func187, Tryz.ntmps187
  go_wp2_with fail
  refine (sng64 _).mono ?_
  rintro e w1 ⟨v, rfl, ho, hb1⟩
  obtain ⟨g, c', rfl, hg, cg⟩ := one_of ho
  have HB := Lib.hid hb1
  clear ho hb1
  go_wp2_with fail
  refine (sgn6 _).mono ?_
  rintro e w2 ⟨rfl, hb2⟩
  have HB2 := Lib.hid (HB.out.trans (hb2.mono HB.out.size))
  clear hb2 HB
  have hix := idx230_2 (0) (1) (-1) (0) w2
  go_wp2
  go_ret
  exact ⟨rfl, HB2.out⟩

set_option maxRecDepth 100000 in
set_option maxHeartbeats 1000000 in
theorem below_3_3 (hB : W.cell? ⟨B, 0, none⟩ = some (.slice (some ⟨bo, 0, none⟩) 2 c)) (hl : B < W.heap.size) (hM : Mat W lo bo rb cp 2 2 (castN Mc)) :
    Calls Tryz.prog 187 #[.int .i64 3, .int .i64 3, .pointer (some ⟨B, 0, none⟩)] W fun e W' => e = .returned (.bool false) ∧ Below W.heap.size W W' := by
  have o1 : W.cell? ⟨bo, 1, none⟩ = some (.slice (some ⟨rb 1, 0, none⟩) 2 (cp 1)) := hM.outer 1 (by omega)
  have r1 : W.cell? ⟨rb 1, 1, none⟩ = some (.int .i64 64) := hM.row 1 1 (by omega) (by omega)
  clear hM
  go_enter Tryz.func187, Tryz.ntmps187
  go_wp2_with fail
  refine (sng64 _).mono ?_
  rintro e w1 ⟨v, rfl, ho, hb1⟩
  obtain ⟨g, c', rfl, hg, cg⟩ := one_of ho
  have HB := Lib.hid hb1
  clear ho hb1
  go_wp2_with fail
  refine (sgn6 _).mono ?_
  rintro e w2 ⟨rfl, hb2⟩
  have HB2 := Lib.hid (HB.out.trans (hb2.mono HB.out.size))
  clear hb2 HB
  have hix := idx230_3 (0) (1) (-1) (0) w2
  go_wp2
  go_ret
  exact ⟨rfl, HB2.out⟩

set_option maxRecDepth 100000 in
set_option maxHeartbeats 1000000 in
theorem same_0_1 (hB : W.cell? ⟨B, 0, none⟩ = some (.slice (some ⟨bo, 0, none⟩) 2 c)) (hl : B < W.heap.size) (hM : Mat W lo bo rb cp 2 2 (castN Mc)) :
    Calls Tryz.prog 190 #[.int .i64 0, .int .i64 1, .pointer (some ⟨B, 0, none⟩)] W fun e W' => e = .returned (.bool false) ∧ Below W.heap.size W W' := by
  have o1 : W.cell? ⟨bo, 0, none⟩ = some (.slice (some ⟨rb 0, 0, none⟩) 2 (cp 0)) := hM.outer 0 (by omega)
  have r1 : W.cell? ⟨rb 0, 0, none⟩ = some (.int .i64 64) := hM.row 0 0 (by omega) (by omega)
  clear hM
  go_enter Tryz.func190, Tryz.ntmps190
  go_wp2_with fail
  refine (sng64 _).mono ?_
  rintro e w1 ⟨v, rfl, ho, hb1⟩
  obtain ⟨g, c', rfl, hg, cg⟩ := one_of ho
  have HB := Lib.hid hb1
  clear ho hb1
  go_wp2_with fail
  refine (sgn6 _).mono ?_
  rintro e w2 ⟨rfl, hb2⟩
  have HB2 := Lib.hid (HB.out.trans (hb2.mono HB.out.size))
  clear hb2 HB
  have hix := idx230_1 (0) (1) (-1) (0) w2
  go_wp2
  go_ret
  exact ⟨rfl, HB2.out⟩

set_option maxRecDepth 100000 in
set_option maxHeartbeats 1000000 in
theorem same_0_2 (hB : W.cell? ⟨B, 0, none⟩ = some (.slice (some ⟨bo, 0, none⟩) 2 c)) (hl : B < W.heap.size) (hM : Mat W lo bo rb cp 2 2 (castN Mc)) :
    Calls Tryz.prog 190 #[.int .i64 0, .int .i64 2, .pointer (some ⟨B, 0, none⟩)] W fun e W' => e = .returned (.bool false) ∧ Below W.heap.size W W' := by
  have o1 : W.cell? ⟨bo, 0, none⟩ = some (.slice (some ⟨rb 0, 0, none⟩) 2 (cp 0)) := hM.outer 0 (by omega)
  have r1 : W.cell? ⟨rb 0, 1, none⟩ = some (.int .i64 1) := hM.row 0 1 (by omega) (by omega)
  clear hM
  go_enter Tryz.func190, Tryz.ntmps190
  go_wp2_with fail
  refine (sng1 _).mono ?_
  rintro e w1 ⟨v, rfl, ho, hb1⟩
  obtain ⟨g, c', rfl, hg, cg⟩ := one_of ho
  have HB := Lib.hid hb1
  clear ho hb1
  go_wp2_with fail
  refine (sgn0 _).mono ?_
  rintro e w2 ⟨rfl, hb2⟩
  have HB2 := Lib.hid (HB.out.trans (hb2.mono HB.out.size))
  clear hb2 HB
  have hix := idx230_0 (1) (1) (1) (1) w2
  go_wp2
  go_ret
  exact ⟨rfl, HB2.out⟩

set_option maxRecDepth 100000 in
set_option maxHeartbeats 1000000 in
theorem same_0_3 (hB : W.cell? ⟨B, 0, none⟩ = some (.slice (some ⟨bo, 0, none⟩) 2 c)) (hl : B < W.heap.size) (hM : Mat W lo bo rb cp 2 2 (castN Mc)) :
    Calls Tryz.prog 190 #[.int .i64 0, .int .i64 3, .pointer (some ⟨B, 0, none⟩)] W fun e W' => e = .returned (.bool false) ∧ Below W.heap.size W W' := by
  have o1 : W.cell? ⟨bo, 0, none⟩ = some (.slice (some ⟨rb 0, 0, none⟩) 2 (cp 0)) := hM.outer 0 (by omega)
  have r1 : W.cell? ⟨rb 0, 1, none⟩ = some (.int .i64 1) := hM.row 0 1 (by omega) (by omega)
  clear hM
  go_enter Tryz.func190, Tryz.ntmps190
  go_wp2_with fail
  refine (sng1 _).mono ?_
  rintro e w1 ⟨v, rfl, ho, hb1⟩
  obtain ⟨g, c', rfl, hg, cg⟩ := one_of ho
  have HB := Lib.hid hb1
  clear ho hb1
  go_wp2_with fail
  refine (sgn0 _).mono ?_
  rintro e w2 ⟨rfl, hb2⟩
  have HB2 := Lib.hid (HB.out.trans (hb2.mono HB.out.size))
  clear hb2 HB
  have hix := idx230_1 (1) (1) (1) (1) w2
  go_wp2
  go_ret
  exact ⟨rfl, HB2.out⟩

set_option maxRecDepth 100000 in
set_option maxHeartbeats 1000000 in
theorem same_1_2 (hB : W.cell? ⟨B, 0, none⟩ = some (.slice (some ⟨bo, 0, none⟩) 2 c)) (hl : B < W.heap.size) (hM : Mat W lo bo rb cp 2 2 (castN Mc)) :
    Calls Tryz.prog 190 #[.int .i64 1, .int .i64 2, .pointer (some ⟨B, 0, none⟩)] W fun e W' => e = .returned (.bool false) ∧ Below W.heap.size W W' := by
  have o1 : W.cell? ⟨bo, 0, none⟩ = some (.slice (some ⟨rb 0, 0, none⟩) 2 (cp 0)) := hM.outer 0 (by omega)
  have r1 : W.cell? ⟨rb 0, 1, none⟩ = some (.int .i64 1) := hM.row 0 1 (by omega) (by omega)
  clear hM
  go_enter Tryz.func190, Tryz.ntmps190
  go_wp2_with fail
  refine (sng1 _).mono ?_
  rintro e w1 ⟨v, rfl, ho, hb1⟩
  obtain ⟨g, c', rfl, hg, cg⟩ := one_of ho
  have HB := Lib.hid hb1
  clear ho hb1
  go_wp2_with fail
  refine (sgn0 _).mono ?_
  rintro e w2 ⟨rfl, hb2⟩
  have HB2 := Lib.hid (HB.out.trans (hb2.mono HB.out.size))
  clear hb2 HB
  have hix := idx230_2 (1) (1) (1) (1) w2
  go_wp2
  go_ret
  exact ⟨rfl, HB2.out⟩

set_option maxRecDepth 100000 in
set_option maxHeartbeats 1000000 in
theorem same_1_3 (hB : W.cell? ⟨B, 0, none⟩ = some (.slice (some ⟨bo, 0, none⟩) 2 c)) (hl : B < W.heap.size) (hM : Mat W lo bo rb cp 2 2 (castN Mc)) :
    Calls Tryz.prog 190 #[.int .i64 1, .int .i64 3, .pointer (some ⟨B, 0, none⟩)] W fun e W' => e = .returned (.bool false) ∧ Below W.heap.size W W' := by
  have o1 : W.cell? ⟨bo, 0, none⟩ = some (.slice (some ⟨rb 0, 0, none⟩) 2 (cp 0)) := hM.outer 0 (by omega)
  have r1 : W.cell? ⟨rb 0, 1, none⟩ = some (.int .i64 1) := hM.row 0 1 (by omega) (by omega)
  clear hM
  go_enter Tryz.func190, Tryz.ntmps190
  go_wp2_with fail
  refine (sng1 _).mono ?_
  rintro e w1 ⟨v, rfl, ho, hb1⟩
  obtain ⟨g, c', rfl, hg, cg⟩ := one_of ho
  have HB := Lib.hid hb1
  clear ho hb1
  go_wp2_with fail
  refine (sgn0 _).mono ?_
  rintro e w2 ⟨rfl, hb2⟩
  have HB2 := Lib.hid (HB.out.trans (hb2.mono HB.out.size))
  clear hb2 HB
  have hix := idx230_3 (1) (1) (1) (1) w2
  go_wp2
  go_ret
  exact ⟨rfl, HB2.out⟩

set_option maxRecDepth 100000 in
set_option maxHeartbeats 1000000 in
theorem same_2_3 (hB : W.cell? ⟨B, 0, none⟩ = some (.slice (some ⟨bo, 0, none⟩) 2 c)) (hl : B < W.heap.size) (hM : Mat W lo bo rb cp 2 2 (castN Mc)) :
    Calls Tryz.prog 190 #[.int .i64 2, .int .i64 3, .pointer (some ⟨B, 0, none⟩)] W fun e W' => e = .returned (.bool false) ∧ Below W.heap.size W W' := by
  have o1 : W.cell? ⟨bo, 1, none⟩ = some (.slice (some ⟨rb 1, 0, none⟩) 2 (cp 1)) := hM.outer 1 (by omega)
  have r1 : W.cell? ⟨rb 1, 1, none⟩ = some (.int .i64 64) := hM.row 1 1 (by omega) (by omega)
  clear hM
  go_enter Tryz.func190, Tryz.ntmps190
  go_wp2_with fail
  refine (sng64 _).mono ?_
  rintro e w1 ⟨v, rfl, ho, hb1⟩
  obtain ⟨g, c', rfl, hg, cg⟩ := one_of ho
  have HB := Lib.hid hb1
  clear ho hb1
  go_wp2_with fail
  refine (sgn6 _).mono ?_
  rintro e w2 ⟨rfl, hb2⟩
  have HB2 := Lib.hid (HB.out.trans (hb2.mono HB.out.size))
  clear hb2 HB
  have hix := idx230_1 (0) (1) (-1) (0) w2
  go_wp2
  go_ret
  exact ⟨rfl, HB2.out⟩

theorem below_at (hB : W.cell? ⟨B, 0, none⟩ = some (.slice (some ⟨bo, 0, none⟩) 2 c)) (hl : B < W.heap.size) (hM : Mat W lo bo rb cp 2 2 (castN Mc)) (p q : Nat) (hp : p < 4) (hq : q < 4) :
    Calls Tryz.prog 187 #[.int .i64 (p : Int), .int .i64 (q : Int), .pointer (some ⟨B, 0, none⟩)] W fun e W' => e = .returned (.bool (decide (p < q))) ∧ Below W.heap.size W W' := by
  rcases p with _ | _ | _ | _ | p
  all_goals first | omega | (rcases q with _ | _ | _ | _ | q)
  · exact below_0_0 hB hl hM
  · exact below_0_1 hB hl hM
  · exact below_0_2 hB hl hM
  · exact below_0_3 hB hl hM
  · omega
  · exact below_1_0 hB hl hM
  · exact below_1_1 hB hl hM
  · exact below_1_2 hB hl hM
  · exact below_1_3 hB hl hM
  · omega
  · exact below_2_0 hB hl hM
  · exact below_2_1 hB hl hM
  · exact below_2_2 hB hl hM
  · exact below_2_3 hB hl hM
  · omega
  · exact below_3_0 hB hl hM
  · exact below_3_1 hB hl hM
  · exact below_3_2 hB hl hM
  · exact below_3_3 hB hl hM
  · omega
theorem same_at (hB : W.cell? ⟨B, 0, none⟩ = some (.slice (some ⟨bo, 0, none⟩) 2 c)) (hl : B < W.heap.size) (hM : Mat W lo bo rb cp 2 2 (castN Mc)) (p q : Nat) (hp : p < q) (hq : q < 4) :
    Calls Tryz.prog 190 #[.int .i64 (p : Int), .int .i64 (q : Int), .pointer (some ⟨B, 0, none⟩)] W fun e W' => e = .returned (.bool false) ∧ Below W.heap.size W W' := by
  rcases p with _ | _ | _ | _ | p
  all_goals first | omega | (rcases q with _ | _ | _ | _ | q)
  all_goals first | omega | skip
  · exact same_0_1 hB hl hM
  · exact same_0_2 hB hl hM
  · exact same_0_3 hB hl hM
  · exact same_1_2 hB hl hM
  · exact same_1_3 hB hl hM
  · exact same_2_3 hB hl hM
end
end Go.Proofs.YthilkphnjffnhaaGreat
