/- allen.spans. -/
import Derived.Test.YthilkphnjffnhaaGreatAln
import Derived.Test.YthilkphnjffnhaaGreatCmbc
set_option linter.unusedSimpArgs false
set_option linter.unusedVariables false
namespace Go.Proofs.YthilkphnjffnhaaGreat
open Go.RowKit Go.Shelf

def spRow (f t : Nat) : List Sp := (List.range t).map fun (t : Nat) => ⟨(f : Int), (f : Int) + (t : Int) + 1⟩
def spP (f t : Nat) : List Sp := ((List.range f).flatMap fun f => spRow f (5 - f)) ++ spRow f t
theorem spP_next {f t : Nat} : spP f (t + 1) = spP f t ++ [⟨(f : Int), (f : Int) + (t : Int) + 1⟩] := by
  unfold spP spRow
  rw [List.range_succ, List.map_append, ← List.append_assoc]; rfl
theorem spP_row {f : Nat} : spP f (5 - f) = spP (f + 1) 0 := by
  unfold spP
  rw [List.range_succ, List.flatMap_append]
  simp [spRow]
theorem spP_all : spP 5 0 = spL := rfl
theorem spP_len : ∀ f, f < 6 → ∀ t, t < 6 → (spP f t).length ≤ 30 := by decide

set_option maxRecDepth 100000 in
set_option maxHeartbeats 4000000 in
theorem spans_any (w : World) : Calls Tryz.prog 324 #[] w fun e w' => ∃ v, e = .returned v ∧ OwL Sp.enc 2 58 w' w.heap.size v spL ∧ Below w.heap.size w w' := by
  go_enter Tryz.func324, Tryz.ntmps324
  go_wp2
  go_loopg [1, 4] 5 (fun gg s1 s4 wr => ∃ (f : Nat) (v : Value), f ≤ 5 ∧ 5 - f ≤ gg ∧ s4 = .int .i64 (f : Int) ∧ v = s1 ∧ Aside (OwL Sp.enc 2 58 wr w.heap.size v (spP f 0)) ∧ Aside (Below w.heap.size w wr))
  case atStart => exact ⟨0, _, by omega, by omega, rfl, rfl, OwL.nil, Below.refl _ _⟩
  case round =>
    obtain ⟨f, v1, hf, hg, rfl, rfl, HO, HB⟩ := hrel
    by_cases hlt : f < 5
    · have hltz : (f : Int) < 5 := by omega
      obtain ⟨w1, rfl⟩ : ∃ w1 : World, w1 = wr := ⟨_, rfl⟩
      have HS := Lib.hid (show spP f (5 - f) = spP (f + 1) 0 from spP_row)
      go_wp2
      go_loopg [1, 3] 5 (fun gg s1 s3 wr => ∃ (t : Nat) (v : Value), t ≤ 5 - f ∧ 5 - t ≤ gg ∧ s3 = .int .i64 ((f : Int) + (t : Int) + 1) ∧ v = s1 ∧ Aside (OwL Sp.enc 2 58 wr w.heap.size v (spP f t)) ∧ Aside (Below w.heap.size w wr))
      case atStart => exact ⟨0, _, by omega, by omega, by simp, rfl, HO.out, HB.out⟩
      case round =>
        obtain ⟨t, v2, ht, hg2, rfl, rfl, HO2, HB2⟩ := hrel
        clear HO HB
        have hlen := spP_len f (by omega) t (by omega)
        by_cases hlt2 : t < 5 - f
        · have hltz2 : (f : Int) + (t : Int) + 1 ≤ 5 := by omega
          have HN := Lib.hid (spP_next (f := f) (t := t))
          go_wp2_with (at_builtin; refine wpList_app (v := v2) (xs := spP f t) (ys := [⟨(f : Int), (f : Int) + (t : Int) + 1⟩]) (A := some ⟨wr.heap.size, 0, none⟩) rfl _ _ 56 rfl elT55 enc55 rfl (HO2.out.alloc _) rfl (rd_one (enc := Sp.enc) (k := 2) wr ⟨(f : Int), (f : Int) + (t : Int) + 1⟩ 58) (fun h => by cases h) (by simp; omega) (by decide) (by have := HB2.out.size; simp; omega) ?_; intro v' w4 hown' hgrow hnil hat; have HOW := Lib.hid hown'; have HBX := Lib.hid (ofB1 HB2.out HO2.out HB2.out.size hgrow); clear hown' hgrow hnil hat)
          go_roundg (5 - (t + 1))
          case measure => omega
          case rel => exact ⟨t + 1, _, by omega, by omega, by simp; omega, rfl, by rw [HN.out]; exact HOW.out, HBX.out⟩
        · have hltz2 : ¬ (f : Int) + (t : Int) + 1 ≤ 5 := by omega
          obtain rfl : t = 5 - f := by omega
          go_wp2
          go_roundg (5 - (f + 1))
          case measure => omega
          case rel => exact ⟨f + 1, _, by omega, by omega, by go_num, rfl, by rw [← HS.out]; exact HO2.out, HB2.out⟩
    · obtain rfl : f = 5 := by omega
      go_wp2
      go_ret
      exact ⟨_, rfl, by rw [← spP_all]; exact HO.out, HB.out⟩
end Go.Proofs.YthilkphnjffnhaaGreat
