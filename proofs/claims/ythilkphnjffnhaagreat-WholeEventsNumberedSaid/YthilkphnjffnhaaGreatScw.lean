/- network.scenario, Scenario, Consistent, Close. -/
import Derived.Test.YthilkphnjffnhaaGreatNtw
import Derived.Test.YthilkphnjffnhaaGreatSlv
set_option linter.unusedSimpArgs false
set_option linter.unusedVariables false
namespace Go.Proofs.YthilkphnjffnhaaGreat
open Go.RowKit Go.Shelf

def ScenPost (w : World) (n : Nat) (M : Mn) (t : Value) (f : Value) (e : Ending) (w' : World) : Prop :=
  Below w.heap.size w w' ∧ ((∃ bo rb cp c' M', e = .returned (.tuple #[.slice (some ⟨bo, 0, none⟩) n c', t]) ∧ Mat w' w.heap.size bo rb cp n n (castN M') ∧ Done n M M') ∨ (e = .returned (.tuple #[.slice none 0 0, f]) ∧ ∀ S, ¬ Scen n M S))
section
variable {n : Nat} {A : Option Addr} {c : Nat} {l : List Rl} {w : World}
theorem rl_ok (hv : nvalid n l = true) : 1 ≤ n ∧ n ≤ 8 ∧ ∀ r ∈ l, rlB n r = true := by
  obtain ⟨h1, h2, _, h4⟩ := nvalid_iff.1 hv
  exact ⟨by omega, by omega, h4⟩
theorem rl_ok' (hv : nvalid n l = true) : ∀ r ∈ l, rlOk n r := fun r hr => rlB_iff.1 ((rl_ok hv).2.2 r hr)
set_option maxRecDepth 100000 in
set_option maxHeartbeats 2000000 in
theorem scenario_any (hs : RdS Rl.enc 3 w A l) (hv : nvalid n l = true) : Calls Tryz.prog 145 #[.int .i64 n, .slice A l.length c] w (ScenPost w n (matF l) (.bool true) (.bool false)) := by
  obtain ⟨hn1, hn2, hr⟩ := rl_ok hv
  have hok := rl_ok' hv
  have hB1 : Below w.heap.size w (w.alloc (.map #[] 0)) := (Below.refl _ _).alloc (Nat.le_refl _) _
  have HMX := Lib.hid (matrix_any n A c l (w.alloc (.map #[] 0)) (hs.below hB1) hn1 hn2 hr)
  have HCM := Lib.hid (CMap.made compN w)
  have HB1 := Lib.hid hB1
  have HLT := Lib.hid (matF_lt hok)
  have HSY := Lib.hid (matF_sym n hok)
  have hmm := @run_makeMap Tryz.prog
  clear hs hr hok hB1 hv
  generalize matF l = M at *
  go_enter Tryz.func145, Tryz.ntmps145
  go_wp2_with fail
  refine HMX.out.mono ?_
  rintro e w2 ⟨bm, rb, cp, rfl, hM, hb2⟩
  have hsz : (w.alloc (.map #[] 0)).heap.size = w.heap.size + 1 := by simp
  have HSV := Lib.hid (solved_any n hn1 hn2 (muN n M + 1) (w.heap.size + 1) w.heap.size bm n rb cp M w2 (by omega) (by rw [← hsz]; exact hM) (HCM.out.below hb2) (by have := hM.olo; omega) (fun i hi => by have := hM.rlo i hi; omega) HLT.out HSY.out)
  have HB2 := Lib.hid (HB1.out.trans (hb2.mono (by omega)))
  clear hM hb2 HMX HCM HB1 hmm
  go_wp2_with fail
  refine HSV.out.mono ?_
  rintro e w3 ⟨hc3, hk3, ⟨bo, rb', cp', c', M', rfl, hM', hD⟩ | ⟨rfl, hno⟩⟩
  · have HEND := Lib.hid (show ScenPost w n M (.bool true) (.bool false) (.returned (.tuple #[.slice (some ⟨bo, 0, none⟩) n c', .bool true])) w3 from
      ⟨HB2.out.trans ((hk3.mono (show w.heap.size ≤ w.heap.size + 1 by omega)).below (Nat.le_refl _)), .inl ⟨bo, rb', cp', c', M', rfl, hM'.low (by omega), hD⟩⟩)
    clear hc3 hk3 hM' hD HSV
    go_wp2
    go_ret2
    exact HEND.out
  · have HEND := Lib.hid (show ScenPost w n M (.bool true) (.bool false) (.returned (.tuple #[.slice none 0 0, .bool false])) w3 from
      ⟨HB2.out.trans ((hk3.mono (show w.heap.size ≤ w.heap.size + 1 by omega)).below (Nat.le_refl _)), .inr ⟨rfl, hno⟩⟩)
    clear hc3 hk3 hno HSV
    go_wp2
    go_ret2
    exact HEND.out
set_option maxRecDepth 100000 in
set_option maxHeartbeats 2000000 in
theorem Scenario_any (hs : RdS Rl.enc 3 w A l) (hv : nvalid n l = true) : Calls Tryz.prog 186 #[.int .i64 n, .slice A l.length c] w (ScenPost w n (matF l) (.int .i64 0) (.int .i64 17)) := by
  have HV := Lib.hid (nvalid_any n A c l w hs)
  rw [hv] at HV
  have HS := Lib.hid hs; have HVL := Lib.hid hv
  clear hs hv
  go_enter Tryz.func186, Tryz.ntmps186
  go_wp2_with fail
  refine HV.out.mono ?_
  rintro e w1 ⟨rfl, hb1⟩
  have HSC := Lib.hid (scenario_any (c := c) (HS.out.below hb1) HVL.out)
  have HB1 := Lib.hid hb1
  clear hb1 HV
  go_wp2_with fail
  refine HSC.out.mono ?_
  rintro e w3 ⟨hb3, ⟨bo, rb', cp', c', M', rfl, hM', hD⟩ | ⟨rfl, hno⟩⟩
  · have HEND := Lib.hid (show ScenPost w n (matF l) (.int .i64 0) (.int .i64 17) (.returned (.tuple #[.slice (some ⟨bo, 0, none⟩) n c', .int .i64 0])) w3 from
      ⟨HB1.out.trans (hb3.mono HB1.out.size), .inl ⟨bo, rb', cp', c', M', rfl, hM'.low HB1.out.size, hD⟩⟩)
    clear hb3 hM' hD HSC
    go_wp2
    go_ret2
    exact HEND.out
  · have HEND := Lib.hid (show ScenPost w n (matF l) (.int .i64 0) (.int .i64 17) (.returned (.tuple #[.slice none 0 0, .int .i64 17])) w3 from
      ⟨HB1.out.trans (hb3.mono HB1.out.size), .inr ⟨rfl, hno⟩⟩)
    clear hb3 hno HSC
    go_wp2
    go_ret2
    exact HEND.out

/-- Consistent: whether there is a scenario -/
def ConsPost (w : World) (n : Nat) (M : Mn) (e : Ending) (w' : World) : Prop :=
  Below w.heap.size w w' ∧ ∃ ok : Bool, e = .returned (.tuple #[.bool ok, .int .i64 0]) ∧ (ok = true ↔ ∃ S, Scen n M S)
set_option maxRecDepth 100000 in
set_option maxHeartbeats 2000000 in
theorem NConsistent_any (hs : RdS Rl.enc 3 w A l) (hv : nvalid n l = true) : Calls Tryz.prog 79 #[.int .i64 n, .slice A l.length c] w (ConsPost w n (matF l)) := by
  have HV := Lib.hid (nvalid_any n A c l w hs)
  rw [hv] at HV
  have HS := Lib.hid hs; have HVL := Lib.hid hv
  have HOK := Lib.hid (rl_ok' hv)
  clear hs hv
  go_enter Tryz.func79, Tryz.ntmps79
  go_wp2_with fail
  refine HV.out.mono ?_
  rintro e w1 ⟨rfl, hb1⟩
  have HSC := Lib.hid (scenario_any (c := c) (HS.out.below hb1) HVL.out)
  have HB1 := Lib.hid hb1
  clear hb1 HV
  go_wp2_with fail
  refine HSC.out.mono ?_
  rintro e w3 ⟨hb3, ⟨bo, rb', cp', c', M', rfl, hM', hD⟩ | ⟨rfl, hno⟩⟩
  · have HEND := Lib.hid (show ConsPost w n (matF l) (.returned (.tuple #[.bool true, .int .i64 0])) w3 from
      ⟨HB1.out.trans (hb3.mono HB1.out.size), true, rfl, fun _ => ⟨M', hD.scen (matF_lt HOK.out) (matF_diag n l)⟩, fun _ => rfl⟩)
    clear hb3 hM' hD HSC
    go_wp2
    go_ret2
    exact HEND.out
  · have HEND := Lib.hid (show ConsPost w n (matF l) (.returned (.tuple #[.bool false, .int .i64 0])) w3 from
      ⟨HB1.out.trans (hb3.mono HB1.out.size), false, rfl, fun h => (by cases h), fun ⟨S, h⟩ => absurd h (hno S)⟩)
    clear hb3 hno HSC
    go_wp2
    go_ret2
    exact HEND.out

/-- Close: the greatest closed matrix, or ErrProof -/
def ClosePost (w : World) (n : Nat) (M : Mn) (e : Ending) (w' : World) : Prop :=
  Below w.heap.size w w' ∧ ((∃ bo rb cp M', e = .returned (.tuple #[.slice (some ⟨bo, 0, none⟩) n n, .int .i64 0]) ∧ Mat w' w.heap.size bo rb cp n n (castN M') ∧ Great n M M') ∨ (e = .returned (.tuple #[.slice none 0 0, .int .i64 17]) ∧ NoClo n M))
set_option maxRecDepth 100000 in
set_option maxHeartbeats 2000000 in
theorem Close_any (hs : RdS Rl.enc 3 w A l) (hv : nvalid n l = true) : Calls Tryz.prog 78 #[.int .i64 n, .slice A l.length c] w (ClosePost w n (matF l)) := by
  have HV := Lib.hid (nvalid_any n A c l w hs)
  rw [hv] at HV
  obtain ⟨hn1, hn2, hr⟩ := rl_ok hv
  have HS := Lib.hid hs; have HR := Lib.hid hr
  have HLT := Lib.hid (matF_lt (rl_ok' hv))
  have hmm := @run_makeMap Tryz.prog
  clear hs hv hr
  go_enter Tryz.func78, Tryz.ntmps78
  go_wp2_with fail
  refine HV.out.mono ?_
  rintro e w1 ⟨rfl, hb1⟩
  have HMX := Lib.hid (matrix_any n A c l w1 (HS.out.below hb1) hn1 hn2 HR.out)
  have HB1 := Lib.hid hb1
  clear hb1 HV
  go_wp2_with fail
  refine HMX.out.mono ?_
  rintro e w2 ⟨bm, rb, cp, rfl, hM, hb2⟩
  have HB2 := Lib.hid (HB1.out.trans (hb2.mono HB1.out.size))
  have HB3 := Lib.hid (HB2.out.alloc HB2.out.size (.map #[] 0))
  have hM3 := hM.alloc (.map #[] 0)
  have HCL := Lib.hid (closed_any w1.heap.size w2.heap.size bm n n rb cp (matF l) (w2.alloc (.map #[] 0)) hM3 (CMap.made compN w2) (by have := hM.olt; omega) (fun i hi => by have := hM.rlt i hi; omega) HLT.out hn1 hn2)
  have hw12 : w1.heap.size ≤ w2.heap.size := hb2.size
  clear hM hM3 hb2 HMX
  go_wp2_with fail
  refine HCL.out.mono ?_
  rintro e w3 ⟨hc3, hk3, ⟨rfl, M', hM', hG⟩ | ⟨rfl, hno⟩⟩
  · have HEND := Lib.hid (show ClosePost w n (matF l) (.returned (.tuple #[.slice (some ⟨bm, 0, none⟩) n n, .int .i64 0])) w3 from
      ⟨HB3.out.trans ((hk3.mono HB1.out.size).below (by have := HB2.out.size; omega)), .inl ⟨bm, rb, cp, M', rfl, hM'.low HB1.out.size, hG⟩⟩)
    clear hc3 hk3 hM' hG HCL hmm
    go_wp2
    go_ret2
    exact HEND.out
  · have HEND := Lib.hid (show ClosePost w n (matF l) (.returned (.tuple #[.slice none 0 0, .int .i64 17])) w3 from
      ⟨HB3.out.trans ((hk3.mono HB1.out.size).below (by have := HB2.out.size; omega)), .inr ⟨rfl, hno⟩⟩)
    clear hc3 hk3 hno HCL hmm
    go_wp2
    go_ret2
    exact HEND.out
end
end Go.Proofs.YthilkphnjffnhaaGreat
