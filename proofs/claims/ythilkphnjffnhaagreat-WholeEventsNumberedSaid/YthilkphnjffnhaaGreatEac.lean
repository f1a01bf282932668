/- Sets of relations in Go: isSet, each, Inverse. -/
import Derived.RangeFuncNested
import Derived.RangeFuncLeaves
import Derived.Shelf.Abstract
import Derived.WalkKit
import Derived.OwnWalkIn
import Derived.TacticsInMore
import Derived.LoopNIn
import Derived.LoopIn
import Derived.Test.YthilkphnjffnhaaGreatRows
import Derived.Test.YthilkphnjffnhaaGreatBts
set_option linter.unusedSimpArgs false
set_option linter.unusedVariables false
namespace Go.Proofs.YthilkphnjffnhaaGreat
open Go.RowKit Go.Shelf
attribute [local go_sem] Oper.semAt_some

theorem full_any (w : World) : Calls Tryz.prog 141 #[] w fun e w' => e = .returned (.int .i64 8191) ∧ w = w' := by
  go_enter Tryz.func141, Tryz.ntmps141
  go_wp2
  go_ret
  exact ⟨rfl, rfl⟩
def setB (s : Int) : Bool := decide (0 ≤ s ∧ s ≤ 8191)
theorem isSet_any (s : Int) (w : World) : Calls Tryz.prog 76 #[.int .i64 s] w fun e w' => e = .returned (.bool (setB s)) ∧ w = w' := by
  by_cases h1 : 0 ≤ s <;> by_cases h2 : s ≤ 8191
  all_goals
    go_enter Tryz.func76, Tryz.ntmps76
    go_wp2
    go_ret
    exact ⟨ret_bool (by simp [setB]; omega), rfl⟩
theorem set_any (s : Int) (w : World) : Calls Tryz.prog 75 #[.int .i64 s] w fun e w' => e = .returned (.bool (setB s)) ∧ w = w' := by
  by_cases h1 : 0 ≤ s <;> by_cases h2 : s ≤ 8191
  all_goals
    go_enter Tryz.func75, Tryz.ntmps75
    go_wp2_with (go_at_call 141; refine (full_any _).mono ?_; rintro e w' ⟨rfl, rfl⟩)
    go_ret
    exact ⟨ret_bool (by simp [setB]; omega), rfl⟩

/-- block b lies as it lay -/
def KpB (b : Nat) (W W' : World) : Prop := W'.heap[b]? = W.heap[b]?
theorem kpB_t {b : Nat} {A B C : World} (h : KpB b A B) (h2 : KpB b B C) : KpB b A C := Eq.trans h2 h
theorem kpB_b {b : Nat} {w : World} (hb : b < w.heap.size) (W : World) (l : Nat) (o o' : Obj) (hl : w.heap.size ≤ l) (_ : W.heap[l]? = some o) (_ : o.isCells = false) (_ : o.isWalk = false) : KpB b W (W.putObj l o') := by
  unfold KpB World.putObj
  simp only
  rw [Array.getElem?_setIfInBounds_ne (by omega)]
theorem kpB_set {b : Nat} (W : World) {p : Addr} (hp : p.block ≠ b) (v : Value) : KpB b W (W.setCell p v) := Below.heap_setCell W p v b (fun e => hp e.symm)
theorem kpB_below {b n : Nat} {W W' : World} (h : Below n W W') (hb : b < n) : KpB b W W' := h.block b hb

/-- the number of a relation -/
abbrev R13 := { r : Nat // r < 13 }
def upF (s : Nat) : Nat → List R13
  | 0 => []
  | k + 1 => if h : k < 13 then (if s.testBit k then upF s k ++ [⟨k, h⟩] else upF s k) else upF s k
def bitsF (s : Nat) : List R13 := upF s 13
theorem upF_hit {s k : Nat} (hk : k < 13) (h : s.testBit k = true) : upF s (k + 1) = upF s k ++ [⟨k, hk⟩] := by simp only [upF]; rw [dif_pos hk, if_pos h]
theorem upF_miss {s k : Nat} (hk : k < 13) (h : s.testBit k = false) : upF s (k + 1) = upF s k := by simp only [upF]; rw [dif_pos hk, if_neg (by simp [h])]
theorem upF_map (s : Nat) : ∀ k, k ≤ 13 → (upF s k).map (·.1) = (List.range k).filter fun r => s.testBit r
  | 0, _ => rfl
  | k + 1, h => by
    have ih := upF_map s k (by omega)
    rw [List.range_succ, List.filter_append]
    cases hb : s.testBit k with
    | true => rw [upF_hit (by omega) hb, List.map_append, ih]; simp [hb]
    | false => rw [upF_miss (by omega) hb, ih]; simp [hb]
theorem bitsF_map (s : Nat) : (bitsF s).map (·.1) = bitsL s := upF_map s 13 (Nat.le_refl _)
theorem upF_len (s : Nat) : ∀ k, (upF s k).length ≤ k
  | 0 => Nat.le_refl _
  | k + 1 => by
    have := upF_len s k
    simp only [upF]
    split
    · split
      · simp; omega
      · omega
    · omega
theorem upF_pre (s : Nat) {k m : Nat} (h : k ≤ m) : upF s k <+: upF s m := by
  induction m with
  | zero =>
    obtain rfl : k = 0 := by omega
    exact List.prefix_refl _
  | succ m ih =>
    by_cases e : k = m + 1
    · subst e; exact List.prefix_refl _
    · refine (ih (by omega)).trans ?_
      simp only [upF]
      split
      · split
        · exact List.prefix_append _ _
        · exact List.prefix_refl _
      · exact List.prefix_refl _

set_option maxRecDepth 100000 in
set_option maxHeartbeats 2000000 in
theorem each1_in (F : Fence) (n : Nat) (h6 : F.fn 142) (hro : F.round = none) (hn : 1 ≤ n) (l Bn s : Nat) (hs : s < 8192) (J Jx : List R13 → World → Prop)
    (hY : ∀ pre x W, J pre W → pre.length < 13 → YieldAt F (n - 1) Tryz.prog l #[.int .i64 (x.1 : Int)] W fun e W' =>
      (e = .returned (.bool true) ∧ J (pre ++ [x]) W' ∧ KpB Bn W W') ∨ (e = .returned (.bool false) ∧ Jx (pre ++ [x]) W'))
    (W : World) (hc : W.cell? ⟨Bn, 0, none⟩ = some (.int .i64 (s : Int))) (h0 : J [] W) :
    CallsIn F n Tryz.prog 142 #[.func (.yield l) #[] #[], .pointer (some ⟨Bn, 0, none⟩)] W fun e W' => (∃ v, e = .returned v) ∧
      ((∃ ys, ys = bitsF s ∧ J ys W') ∨ (∃ pre, pre <+: bitsF s ∧ Jx pre W')) := by
  refine callsIn_of_wp Tryz.func142 rfl h6 ?_ hro
  simp only [Tryz.ntmps142, List.size_toArray, List.length_cons, List.length_nil, Nat.reduceAdd, Nat.reduceSub, Array.replicate_succ, Array.replicate_zero, List.push_toArray, List.append_toArray, List.nil_append, List.cons_append]
  gi_wp2
  gi_loopw [4] (fun p wr => ∃ k : Nat, k ≤ 13 ∧ p = .int .i64 (k : Int) ∧ J (upF s k) wr ∧ wr.cell? ⟨Bn, 0, none⟩ = some (.int .i64 (s : Int))) (fun p _ => 13 - (intOf p).toNat)
  case atStart => exact ⟨0, by omega, rfl, h0, hc⟩
  case round =>
    obtain ⟨k, hk, rfl, hJ, hcr⟩ := hrel
    by_cases hlt : k < 13
    · have hltz : (k : Int) < 13 := by omega
      have hbit := bit_and_one (k := k) hs
      cases hb : s.testBit k with
      | true =>
        rw [hb] at hbit
        simp only [if_true] at hbit
        have hsn := upF_hit hlt hb
        obtain ⟨fn, tmps, assign, body, hy, hR⟩ := hY (upF s k) ⟨k, hlt⟩ wr hJ (Nat.lt_of_le_of_lt (upF_len s k) hlt)
        dsimp only at hy
        rw [← hsn] at hR
        have HS := Lib.hid hsn
        clear hsn hb
        gi_wp2
        refine hR.mono ?_
        rintro e W3 (⟨rfl, hJ3, hk3⟩ | ⟨rfl, hJx3⟩)
        · have hq3 : W3.cell? ⟨Bn, 0, none⟩ = some (.int .i64 (s : Int)) := (World.cell?_of_block (w := wr) (w' := W3) (a := ⟨Bn, 0, none⟩) hk3).trans hcr
          gi_wp2
          go_roundw
          case rel => exact ⟨k + 1, by omega, by go_num, hJ3, hq3⟩
          case measure => simp [intOf]; omega
        · gi_wp2
          refine bodyPost_ret (results_none rfl _ _ _) rfl ?_
          exact ⟨⟨_, rfl⟩, .inr ⟨_, upF_pre s hlt, hJx3⟩⟩
      | false =>
        rw [hb] at hbit
        simp only [Bool.false_eq_true, if_false] at hbit
        have HS := Lib.hid (upF_miss hlt hb)
        clear hb
        gi_wp2
        refine ⟨fun _ h => (by cases h), ?_⟩
        gi_wp2
        go_roundw
        case rel => exact ⟨k + 1, by omega, by go_num, by rw [HS.out]; exact hJ, hcr⟩
        case measure => simp [intOf]; omega
    · obtain rfl : k = 13 := by omega
      gi_wp2
      go_end0
      exact ⟨⟨_, rfl⟩, .inl ⟨_, rfl, hJ⟩⟩

set_option maxHeartbeats 1000000 in
theorem each_in (F : Fence) (n : Nat) (h5 : F.fn 77) (hro : F.round = none) (s : Int) (w : World) :
    CallsIn F n Tryz.prog 77 #[.int .i64 s] w fun e w' => e = .returned (.func (.func 142) #[] #[.pointer (some ⟨w.heap.size, 0, none⟩)]) ∧ w' = w.alloc (.cells #[.int .i64 s] 3) := by
  refine callsIn_of_wp Tryz.func77 rfl h5 ?_ hro
  simp only [Tryz.ntmps77, List.size_toArray, List.length_cons, List.length_nil, Nat.reduceAdd, Nat.reduceSub, Array.replicate_succ, Array.replicate_zero, List.push_toArray, List.append_toArray, List.nil_append, List.cons_append]
  gi_wp2
  go_ret
  exact ⟨rfl, rfl⟩
theorem each_stops (F : Fence) (n : Nat) (h6 : F.fn 142) (hro : F.round = none) (hn : 1 ≤ n) (Bn s : Nat) (hs : s < 8192) (w : World) (hBn : Bn < w.heap.size)
    (hc : w.cell? ⟨Bn, 0, none⟩ = some (.int .i64 (s : Int))) :
    SeqStopsK F n Tryz.prog 142 #[.pointer (some ⟨Bn, 0, none⟩)] (fun x : R13 => #[Value.int .i64 (x.1 : Int)]) (KpB Bn) (fun ys => ys = bitsF s) (fun pre => pre <+: bitsF s) 13 w := fun l J Jx W hW _ _ hY h0 =>
  each1_in F n h6 hro hn l Bn s hs J Jx hY W ((hW.cell (p := ⟨Bn, 0, none⟩) hBn).trans hc) h0
end Go.Proofs.YthilkphnjffnhaaGreat
