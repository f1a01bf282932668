/- Contracts of small functions that only compute with whole numbers: comparisons, exact sums, lines, spans. -/
import Derived.Test.YthilkphnjffnhaaGreatRows
import Derived.Test.YthilkphnjffnhaaGreatBase
import Derived.Deep.QuietTactic
import Derived.BigQuiet
set_option linter.unusedSimpArgs false
set_option linter.unusedVariables false
namespace Go.Proofs.YthilkphnjffnhaaGreat
open Go.RowKit


/-- three-way comparison -/
def cmp3 (a b : Int) : Int := if a < b then -1 else if b < a then 1 else 0
theorem cmp3_lt {a b : Int} (h : a < b) : cmp3 a b = -1 := by unfold cmp3; rw [if_pos h]
theorem cmp3_gt {a b : Int} (h : b < a) : cmp3 a b = 1 := by unfold cmp3; rw [if_neg (by omega), if_pos h]
theorem cmp3_eq {a b : Int} (h : a = b) : cmp3 a b = 0 := by unfold cmp3; rw [if_neg (by omega), if_neg (by omega)]

theorem isNaN_any (a : Int) (w : World) : Calls Tryz.prog 160 #[.int .i64 a] w fun e w' => e = .returned (.bool false) ∧ w = w' := by
  go_enter Tryz.func160, Tryz.ntmps160
  go_wp2
  go_ret
  exact ⟨by simp, rfl⟩

theorem compare_any (a b : Int) (w : World) : Calls Tryz.prog 100 #[.int .i64 a, .int .i64 b] w fun e w' => e = .returned (.int .i64 (cmp3 a b)) ∧ w = w' := by
  go_enter Tryz.func100, Tryz.ntmps100
  go_wp2_with (go_at_call 160; refine (isNaN_any _ _).mono ?_; rintro e w' ⟨rfl, rfl⟩)
  all_goals go_ret
  · exact ⟨ret_int (cmp3_lt ‹_›).symm, rfl⟩
  · exact ⟨ret_int (cmp3_gt ‹_›).symm, rfl⟩
  · exact ⟨ret_int (cmp3_eq (by omega)).symm, rfl⟩

theorem sign_any (a b : Int) (w : World) : Calls Tryz.prog 148 #[.int .i64 a, .int .i64 b] w fun e w' => e = .returned (.int .i64 (cmp3 a b)) ∧ w = w' := by
  go_enter Tryz.func148, Tryz.ntmps148
  go_wp2
  all_goals go_ret
  · exact ⟨ret_int (cmp3_lt ‹_›).symm, rfl⟩
  · exact ⟨ret_int (cmp3_gt ‹_›).symm, rfl⟩
  · exact ⟨ret_int (cmp3_eq (by omega)).symm, rfl⟩

def lineB (x : Int) : Bool := decide (-4398046511104 ≤ x ∧ x ≤ 4398046511104)
theorem lineB_iff {x : Int} : lineB x = true ↔ -4398046511104 ≤ x ∧ x ≤ 4398046511104 := by simp [lineB]
theorem lineB_no {x : Int} (h : ¬ (-4398046511104 ≤ x ∧ x ≤ 4398046511104)) : lineB x = false := by simp [lineB]; omega

theorem line_any (x : Int) (w : World) : Calls Tryz.prog 152 #[.int .i64 x] w fun e w' => e = .returned (.bool (lineB x)) ∧ w = w' := by
  go_enter Tryz.func152, Tryz.ntmps152
  go_wp2
  all_goals go_ret
  · exact ⟨ret_bool (by simp [lineB]; omega), rfl⟩
  · exact ⟨ret_bool (lineB_no (by omega)).symm, rfl⟩

def validB (a b : Int) : Bool := lineB a && lineB b && decide (a < b)
theorem validB_iff {a b : Int} : validB a b = true ↔ (-4398046511104 ≤ a ∧ a ≤ 4398046511104) ∧ (-4398046511104 ≤ b ∧ b ≤ 4398046511104) ∧ a < b := by simp [validB, lineB]; omega

theorem ivalid_any (a b : Int) (w : World) : Calls Tryz.prog 91 #[.agg #[.int .i64 a, .int .i64 b]] w fun e w' => e = .returned (.bool (validB a b)) ∧ Below w.heap.size w w' := by
  cases ha : lineB a <;> cases hb : lineB b
  all_goals
    go_enter Tryz.func91, Tryz.ntmps91
    go_wp2_with (go_at_call 152; refine (line_any _ _).mono ?_; rintro e w' ⟨rfl, rfl⟩)
    go_ret
    exact ⟨ret_bool (by simp [validB, ha, hb]), (Below.refl _ _).alloc (Nat.le_refl _) _⟩

theorem add_any (a b : Int) (w : World) (ha : -1125899906842624 ≤ a) (ha' : a ≤ 1125899906842624) (hb : -1125899906842624 ≤ b) (hb' : b ≤ 1125899906842624) :
    Calls Tryz.prog 139 #[.int .i64 a, .int .i64 b] w fun e w' => e = .returned (.tuple #[.int .i64 (a + b), .int .i64 0]) ∧ w = w' := by
  by_cases h1 : 0 ≤ a <;> by_cases h2 : 0 ≤ b <;> by_cases h3 : 0 ≤ a + b
  all_goals first
    | (exfalso; omega)
    | (go_enter Tryz.func139, Tryz.ntmps139
       go_wp2
       go_ret2
       exact ⟨rfl, rfl⟩)
end Go.Proofs.YthilkphnjffnhaaGreat
