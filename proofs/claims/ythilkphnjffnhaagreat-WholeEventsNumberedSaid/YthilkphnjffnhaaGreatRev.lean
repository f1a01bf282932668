/- slices.Reverse turns a row of the call's own round. -/
import Derived.Test.YthilkphnjffnhaaGreatRows
import Derived.Test.YthilkphnjffnhaaGreatOwn
import Derived.BigRegion
set_option linter.unusedSimpArgs false
set_option linter.unusedVariables false
namespace Go.Proofs.YthilkphnjffnhaaGreat
open Go.RowKit Go.Shelf

/-- the row f of length n, after k exchanges from both ends -/
def revTo {α : Type} (n : Nat) (f : Nat → α) (k : Nat) : Nat → α := fun i => if i < k ∨ n ≤ i + k then f (n - 1 - i) else f i
theorem revTo_zero {α : Type} (n : Nat) (f : Nat → α) (i : Nat) (hi : i < n) : revTo n f 0 i = f i := by unfold revTo; rw [if_neg (by omega)]
theorem revTo_step {α : Type} {n : Nat} {f : Nat → α} {k : Nat} (hk : 2 * k + 1 < n) (i : Nat) (hi : i < n) : swapF (revTo n f k) k (n - 1 - k) i = revTo n f (k + 1) i := by
  unfold swapF revTo
  by_cases e1 : i = k
  · subst e1
    rw [if_pos rfl, if_neg (by omega), if_pos (by omega)]
  · rw [if_neg e1]
    by_cases e2 : i = n - 1 - k
    · subst e2
      rw [if_pos rfl, if_neg (by omega), if_pos (by omega)]
      congr 1; omega
    · rw [if_neg e2]
      by_cases e3 : i < k ∨ n ≤ i + k
      · rw [if_pos e3, if_pos (by omega)]
      · rw [if_neg e3, if_neg (by omega)]
theorem revTo_done {α : Type} {n : Nat} {f : Nat → α} {k : Nat} (hk : n ≤ 2 * k + 1) (i : Nat) (hi : i < n) : revTo n f k i = f (n - 1 - i) := by
  unfold revTo
  by_cases e : i < k ∨ n ≤ i + k
  · rw [if_pos e]
  · rw [if_neg e]; congr 1; omega

set_option maxRecDepth 100000 in
set_option maxHeartbeats 2000000 in
theorem reverse17 (n g cap : Nat) (lo : Nat) (f : Nat → Bd) (w : World) (h : OwS Bd.enc 3 w lo g n f) (hn : n ≤ 1000000) :
    Calls Tryz.prog 17 #[.slice (some ⟨g, 0, none⟩) n cap] w fun e w' => e = .returned (.tuple #[]) ∧ OwS Bd.enc 3 w' lo g n (fun i => f (n - 1 - i)) ∧ Below lo w w' := by
  go_enter Tryz.func17, Tryz.ntmps17
  go_wp2
  go_loopg [2, 3] n (fun gg s2 s3 wr => ∃ k : Nat, 2 * k ≤ n ∧ n - 2 * k ≤ gg ∧ s2 = .int .i64 k ∧ s3 = .int .i64 ((n : Int) - 1 - k) ∧ Aside (OwS Bd.enc 3 wr lo g n (revTo n f k)) ∧ Aside (Below lo w wr))
  case atStart => exact ⟨0, by omega, by omega, rfl, by simp, h.congr fun i hi => (revTo_zero n f i hi).symm, Below.refl _ _⟩
  case round =>
    obtain ⟨k, hk, hg, rfl, rfl, HO, HB⟩ := hrel
    clear h
    by_cases hlt : 2 * k + 1 < n
    · obtain ⟨j, hj⟩ : ∃ j : Nat, j = n - 1 - k := ⟨_, rfl⟩
      have ej : (n : Int) - 1 - k = (j : Int) := by omega
      rw [ej]
      have hkj : (k : Int) < (j : Int) := by omega
      have hkj' : ¬ k = j := by omega
      have hkn : k < n := by omega
      have hjn : j < n := by omega
      have hst := Lib.hid (show ∀ i, i < n → swapF (revTo n f k) k j i = revTo n f (k + 1) i from fun i hi => by rw [hj]; exact revTo_step hlt i hi)
      have hj1 := Lib.hid (show ((j : Int) - 1) = (n : Int) - 1 - (k + 1 : Nat) by omega)
      clear ej hj
      generalize revTo n f k = F at HO hst
      have a0 : wr.cell? ⟨g, k * 3, none⟩ = _ := HO.out.cell k hkn 0 _ rfl
      have fa0 := HO.out.fz (k * 3)
      have a1 : wr.cell? ⟨g, k * 3 + 1, none⟩ = _ := HO.out.cell k hkn 1 _ rfl
      have fa1 := HO.out.fz (k * 3 + 1)
      have a2 : wr.cell? ⟨g, k * 3 + 2, none⟩ = _ := HO.out.cell k hkn 2 _ rfl
      have fa2 := HO.out.fz (k * 3 + 2)
      have b0 : wr.cell? ⟨g, j * 3, none⟩ = _ := HO.out.cell j hjn 0 _ rfl
      have fb0 := HO.out.fz (j * 3)
      have b1 : wr.cell? ⟨g, j * 3 + 1, none⟩ = _ := HO.out.cell j hjn 1 _ rfl
      have fb1 := HO.out.fz (j * 3 + 1)
      have b2 : wr.cell? ⟨g, j * 3 + 2, none⟩ = _ := HO.out.cell j hjn 2 _ rfl
      have fb2 := HO.out.fz (j * 3 + 2)
      have S1 := Lib.hid (HO.out.swap (fun _ => rfl) hkn hjn).drew
      have S2 := Lib.hid (setCells_below g HO.out.lo (Bd.enc (F k)) _ (j * 3) (setCells_below g HO.out.lo (Bd.enc (F j)) _ (k * 3) HB.out)).drew
      clear HO HB
      generalize F k = X at *
      generalize F j = Y at *
      obtain ⟨x0, x1, x2⟩ := X
      obtain ⟨y0, y1, y2⟩ := Y
      go_wp2
      go_region
      all_goals
        go_wp2
        go_roundg (n - 2 * (k + 1))
        case measure => omega
        case rel => exact ⟨k + 1, by omega, by omega, by go_num, by rw [hj1.out], S1.out.congr hst.out, S2.out⟩
    · have hkj : ¬ (k : Int) < (n : Int) - 1 - k := by omega
      go_wp2
      go_end0
      exact ⟨rfl, HO.out.congr fun i hi => revTo_done (by omega) i hi, HB.out⟩

set_option maxRecDepth 100000 in
set_option maxHeartbeats 2000000 in
theorem reverse30 (n g cap : Nat) (lo : Nat) (f : Nat → Rl) (w : World) (h : OwS Rl.enc 3 w lo g n f) (hn : n ≤ 1000000) :
    Calls Tryz.prog 30 #[.slice (some ⟨g, 0, none⟩) n cap] w fun e w' => e = .returned (.tuple #[]) ∧ OwS Rl.enc 3 w' lo g n (fun i => f (n - 1 - i)) ∧ Below lo w w' := by
  go_enter Tryz.func30, Tryz.ntmps30
  go_wp2
  go_loopg [2, 3] n (fun gg s2 s3 wr => ∃ k : Nat, 2 * k ≤ n ∧ n - 2 * k ≤ gg ∧ s2 = .int .i64 k ∧ s3 = .int .i64 ((n : Int) - 1 - k) ∧ Aside (OwS Rl.enc 3 wr lo g n (revTo n f k)) ∧ Aside (Below lo w wr))
  case atStart => exact ⟨0, by omega, by omega, rfl, by simp, h.congr fun i hi => (revTo_zero n f i hi).symm, Below.refl _ _⟩
  case round =>
    obtain ⟨k, hk, hg, rfl, rfl, HO, HB⟩ := hrel
    clear h
    by_cases hlt : 2 * k + 1 < n
    · obtain ⟨j, hj⟩ : ∃ j : Nat, j = n - 1 - k := ⟨_, rfl⟩
      have ej : (n : Int) - 1 - k = (j : Int) := by omega
      rw [ej]
      have hkj : (k : Int) < (j : Int) := by omega
      have hkj' : ¬ k = j := by omega
      have hkn : k < n := by omega
      have hjn : j < n := by omega
      have hst := Lib.hid (show ∀ i, i < n → swapF (revTo n f k) k j i = revTo n f (k + 1) i from fun i hi => by rw [hj]; exact revTo_step hlt i hi)
      have hj1 := Lib.hid (show ((j : Int) - 1) = (n : Int) - 1 - (k + 1 : Nat) by omega)
      clear ej hj
      generalize revTo n f k = F at HO hst
      have a0 : wr.cell? ⟨g, k * 3, none⟩ = _ := HO.out.cell k hkn 0 _ rfl
      have fa0 := HO.out.fz (k * 3)
      have a1 : wr.cell? ⟨g, k * 3 + 1, none⟩ = _ := HO.out.cell k hkn 1 _ rfl
      have fa1 := HO.out.fz (k * 3 + 1)
      have a2 : wr.cell? ⟨g, k * 3 + 2, none⟩ = _ := HO.out.cell k hkn 2 _ rfl
      have fa2 := HO.out.fz (k * 3 + 2)
      have b0 : wr.cell? ⟨g, j * 3, none⟩ = _ := HO.out.cell j hjn 0 _ rfl
      have fb0 := HO.out.fz (j * 3)
      have b1 : wr.cell? ⟨g, j * 3 + 1, none⟩ = _ := HO.out.cell j hjn 1 _ rfl
      have fb1 := HO.out.fz (j * 3 + 1)
      have b2 : wr.cell? ⟨g, j * 3 + 2, none⟩ = _ := HO.out.cell j hjn 2 _ rfl
      have fb2 := HO.out.fz (j * 3 + 2)
      have S1 := Lib.hid (HO.out.swap (fun _ => rfl) hkn hjn).drew
      have S2 := Lib.hid (setCells_below g HO.out.lo (Rl.enc (F k)) _ (j * 3) (setCells_below g HO.out.lo (Rl.enc (F j)) _ (k * 3) HB.out)).drew
      clear HO HB
      generalize F k = X at *
      generalize F j = Y at *
      obtain ⟨x0, x1, x2⟩ := X
      obtain ⟨y0, y1, y2⟩ := Y
      go_wp2
      go_region
      all_goals
        go_wp2
        go_roundg (n - 2 * (k + 1))
        case measure => omega
        case rel => exact ⟨k + 1, by omega, by omega, by go_num, by rw [hj1.out], S1.out.congr hst.out, S2.out⟩
    · have hkj : ¬ (k : Int) < (n : Int) - 1 - k := by omega
      go_wp2
      go_end0
      exact ⟨rfl, HO.out.congr fun i hi => revTo_done (by omega) i hi, HB.out⟩

set_option maxRecDepth 100000 in
set_option maxHeartbeats 2000000 in
theorem reverse45 (n g cap : Nat) (lo : Nat) (f : Nat → Sp) (w : World) (h : OwS Sp.enc 2 w lo g n f) (hn : n ≤ 1000000) :
    Calls Tryz.prog 45 #[.slice (some ⟨g, 0, none⟩) n cap] w fun e w' => e = .returned (.tuple #[]) ∧ OwS Sp.enc 2 w' lo g n (fun i => f (n - 1 - i)) ∧ Below lo w w' := by
  go_enter Tryz.func45, Tryz.ntmps45
  go_wp2
  go_loopg [2, 3] n (fun gg s2 s3 wr => ∃ k : Nat, 2 * k ≤ n ∧ n - 2 * k ≤ gg ∧ s2 = .int .i64 k ∧ s3 = .int .i64 ((n : Int) - 1 - k) ∧ Aside (OwS Sp.enc 2 wr lo g n (revTo n f k)) ∧ Aside (Below lo w wr))
  case atStart => exact ⟨0, by omega, by omega, rfl, by simp, h.congr fun i hi => (revTo_zero n f i hi).symm, Below.refl _ _⟩
  case round =>
    obtain ⟨k, hk, hg, rfl, rfl, HO, HB⟩ := hrel
    clear h
    by_cases hlt : 2 * k + 1 < n
    · obtain ⟨j, hj⟩ : ∃ j : Nat, j = n - 1 - k := ⟨_, rfl⟩
      have ej : (n : Int) - 1 - k = (j : Int) := by omega
      rw [ej]
      have hkj : (k : Int) < (j : Int) := by omega
      have hkj' : ¬ k = j := by omega
      have hkn : k < n := by omega
      have hjn : j < n := by omega
      have hst := Lib.hid (show ∀ i, i < n → swapF (revTo n f k) k j i = revTo n f (k + 1) i from fun i hi => by rw [hj]; exact revTo_step hlt i hi)
      have hj1 := Lib.hid (show ((j : Int) - 1) = (n : Int) - 1 - (k + 1 : Nat) by omega)
      clear ej hj
      generalize revTo n f k = F at HO hst
      have a0 : wr.cell? ⟨g, k * 2, none⟩ = _ := HO.out.cell k hkn 0 _ rfl
      have fa0 := HO.out.fz (k * 2)
      have a1 : wr.cell? ⟨g, k * 2 + 1, none⟩ = _ := HO.out.cell k hkn 1 _ rfl
      have fa1 := HO.out.fz (k * 2 + 1)
      have b0 : wr.cell? ⟨g, j * 2, none⟩ = _ := HO.out.cell j hjn 0 _ rfl
      have fb0 := HO.out.fz (j * 2)
      have b1 : wr.cell? ⟨g, j * 2 + 1, none⟩ = _ := HO.out.cell j hjn 1 _ rfl
      have fb1 := HO.out.fz (j * 2 + 1)
      have S1 := Lib.hid (HO.out.swap (fun _ => rfl) hkn hjn).drew
      have S2 := Lib.hid (setCells_below g HO.out.lo (Sp.enc (F k)) _ (j * 2) (setCells_below g HO.out.lo (Sp.enc (F j)) _ (k * 2) HB.out)).drew
      clear HO HB
      generalize F k = X at *
      generalize F j = Y at *
      obtain ⟨x0, x1⟩ := X
      obtain ⟨y0, y1⟩ := Y
      go_wp2
      go_region
      all_goals
        go_wp2
        go_roundg (n - 2 * (k + 1))
        case measure => omega
        case rel => exact ⟨k + 1, by omega, by omega, by go_num, by rw [hj1.out], S1.out.congr hst.out, S2.out⟩
    · have hkj : ¬ (k : Int) < (n : Int) - 1 - k := by omega
      go_wp2
      go_end0
      exact ⟨rfl, HO.out.congr fun i hi => revTo_done (by omega) i hi, HB.out⟩

theorem reverse17_nil (cap : Nat) (w : World) : Calls Tryz.prog 17 #[.slice none 0 cap] w fun e w' => e = .returned (.tuple #[]) ∧ w = w' := by
  go_enter Tryz.func17, Tryz.ntmps17
  go_wp2
  go_loopg [2, 3] 1 (fun gg s2 s3 wr => wr = w ∧ s2 = .int .i64 0 ∧ s3 = .int .i64 (-1) ∧ gg = 1)
  case atStart => exact ⟨rfl, rfl, by simp, rfl⟩
  case round =>
    obtain ⟨rfl, rfl, rfl, rfl⟩ := hrel
    go_wp2
    go_end0
    exact ⟨rfl, rfl⟩

theorem reverse30_nil (cap : Nat) (w : World) : Calls Tryz.prog 30 #[.slice none 0 cap] w fun e w' => e = .returned (.tuple #[]) ∧ w = w' := by
  go_enter Tryz.func30, Tryz.ntmps30
  go_wp2
  go_loopg [2, 3] 1 (fun gg s2 s3 wr => wr = w ∧ s2 = .int .i64 0 ∧ s3 = .int .i64 (-1) ∧ gg = 1)
  case atStart => exact ⟨rfl, rfl, by simp, rfl⟩
  case round =>
    obtain ⟨rfl, rfl, rfl, rfl⟩ := hrel
    go_wp2
    go_end0
    exact ⟨rfl, rfl⟩

theorem reverse45_nil (cap : Nat) (w : World) : Calls Tryz.prog 45 #[.slice none 0 cap] w fun e w' => e = .returned (.tuple #[]) ∧ w = w' := by
  go_enter Tryz.func45, Tryz.ntmps45
  go_wp2
  go_loopg [2, 3] 1 (fun gg s2 s3 wr => wr = w ∧ s2 = .int .i64 0 ∧ s3 = .int .i64 (-1) ∧ gg = 1)
  case atStart => exact ⟨rfl, rfl, by simp, rfl⟩
  case round =>
    obtain ⟨rfl, rfl, rfl, rfl⟩ := hrel
    go_wp2
    go_end0
    exact ⟨rfl, rfl⟩

end Go.Proofs.YthilkphnjffnhaaGreat
