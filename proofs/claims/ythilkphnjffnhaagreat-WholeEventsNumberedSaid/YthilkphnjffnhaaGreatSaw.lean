/- network.Spans at one constraint 'before'; schedulesAwake. -/
import Derived.Test.YthilkphnjffnhaaGreatBlw
import Derived.BigQuiet
import Derived.Test.YthilkphnjffnhaaGreatHul
set_option linter.unusedSimpArgs false
set_option linter.unusedVariables false
namespace Go.Proofs.YthilkphnjffnhaaGreat
open Go.RowKit Go.Shelf

abbrev lB : List Rl := [⟨0, 1, 1⟩]
theorem matB : ∀ i, i < 2 → ∀ j, j < 2 → matF lB i j = Mc i j := by decide
theorem mc_scen : Scen 2 (matF lB) Mc := by
  have hlt : ∀ i, i < 2 → ∀ j, j < 2 → Mc i j < 8192 := by decide
  refine ⟨⟨fun i j hi hj => ?_, fun k i j hk hi hj => ?_⟩, fun i j hi hj => ?_, fun i j hi hj => ?_, fun i j hi hj => by rw [matB i hi j hj]; exact Sub.refl _⟩
  · have : ∀ i, i < 2 → ∀ j, j < 2 → Mc i j ≠ 0 := by decide
    exact this i hi j hj
  · by_cases e : k = i
    · subst e
      have : Mc k k = 64 := by unfold Mc; rw [if_pos rfl]
      rw [this, compN_id (hlt k hk j hj)]
      exact Sub.refl _
    · by_cases e2 : k = j
      · subst e2
        have : Mc k k = 64 := by unfold Mc; rw [if_pos rfl]
        rw [this, compN_id' (hlt i hi k hk)]
        exact Sub.refl _
      · have eij : i = j := by omega
        subst eij
        have e3 : Mc i i = 64 := by unfold Mc; rw [if_pos rfl]
        rw [e3]
        intro t ht
        rw [bit64] at ht
        subst ht
        rw [compN_bit]
        by_cases h : i < k
        · have e4 : Mc i k = 1 := by unfold Mc; rw [if_neg (fun h => e h.symm), if_pos h]
          have e5 : Mc k i = 4096 := by unfold Mc; rw [if_neg e, if_neg (by omega)]
          rw [e4, e5]
          exact ⟨0, 12, ⟨by omega, by decide⟩, ⟨by omega, by decide⟩, tabF_bit.2 ⟨⟨0, 1⟩, by decide, ⟨2, 3⟩, by decide, ⟨0, 1⟩, by decide, by decide, by decide, by decide⟩⟩
        · have e4 : Mc i k = 4096 := by unfold Mc; rw [if_neg (fun h => e h.symm), if_neg h]
          have e5 : Mc k i = 1 := by unfold Mc; rw [if_neg e, if_pos (by omega)]
          rw [e4, e5]
          exact ⟨12, 0, ⟨by omega, by decide⟩, ⟨by omega, by decide⟩, tabF_bit.2 ⟨⟨2, 3⟩, by decide, ⟨0, 1⟩, by decide, ⟨2, 3⟩, by decide, by decide, by decide, by decide⟩⟩
  · have : ∀ i, i < 2 → ∀ j, j < 2 → Mc j i = invN (Mc i j) := by decide
    exact this i hi j hj
  · have : ∀ i, i < 2 → ∀ j, j < 2 → (bitsL (Mc i j)).length = 1 := by decide
    exact single_bits (hlt i hi j hj) (this i hi j hj)
theorem done_mc {M' : Mn} (h : Done 2 (matF lB) M') : ∀ i j, i < 2 → j < 2 → castN M' i j = castN Mc i j := fun i j hi hj => by
  have hs : ∀ i, i < 2 → ∀ j, j < 2 → ∃ r, r < 13 ∧ Mc i j = 2 ^ r := fun i hi j hj => mc_scen.atom i j hi hj
  obtain ⟨r, hr, e⟩ := hs i hi j hj
  have h1 := h.sub i j hi hj
  rw [matB i hi j hj, e] at h1
  have h2 := sub_pow h1 (h.clo.non i j hi hj)
  unfold castN
  rw [h2, e]
theorem make_spans2 (W : World) : (Instr.makeSlice 56 (.int .i64 2) (.int .i64 2)).run Tryz.prog W = .ok (.slice (some ⟨W.heap.size, 0, none⟩) 2 2) (W.alloc (.cells #[.int .i64 0, .int .i64 0, .int .i64 0, .int .i64 0] 58)) := by
  have hinfo : (Tryz.prog.info? 58).map (fun i => (i.zero, i.size, i.bytes)) = some (some (.agg #[.int .i64 0, .int .i64 0]), 2, 16) := by kernel_rfl
  obtain ⟨i0, hi, hz0, hz1, hz2⟩ := info_parts hinfo
  have h := run_make (P := Tryz.prog) W 56 58 i0 (.agg #[.int .i64 0, .int .i64 0]) Tryz.underlying56 hi hz0 .i64 .i64 2 2 (by omega) (by omega) (by rw [hz2]; omega) (by omega)
  have e : madeCells (Value.agg #[.int .i64 0, .int .i64 0]).cells (Int.toNat 2 * 2) = #[.int .i64 0, .int .i64 0, .int .i64 0, .int .i64 0] := by kernel_rfl
  rw [h, hz1, e]
  rfl
/-- what Spans answers there -/
def SpPost (w : World) (e : Ending) (w' : World) : Prop := ∃ g, e = .returned (.tuple #[.slice (some ⟨g, 0, none⟩) 2 2, .int .i64 0]) ∧ g < w'.heap.size ∧ w'.cell? ⟨g, 1, none⟩ = some (.int .i64 1) ∧ w'.cell? ⟨g, 2, none⟩ = some (.int .i64 2) ∧ Below w.heap.size w w'
def rankV (q p : Nat) : Nat → Value := fun a => .int .i64 ((if a < q then a else if a = q then min p q else 0 : Nat) : Int)
/-- the state of the ranks -/
structure SpI (w wr : World) (B R bo c : Nat) (rb cp : Nat → Nat) (q p : Nat) : Prop where
  bx : wr.cell? ⟨B, 0, none⟩ = some (.slice (some ⟨bo, 0, none⟩) 2 c)
  bl : B < R
  mt : Mat wr w.heap.size bo rb cp 2 2 (castN Mc)
  bo : bo < R
  rbo : ∀ i, i < 2 → rb i < R
  ar : Arr wr w.heap.size R 4 (rankV q p)
  low : Below w.heap.size w wr
theorem SpI.below {w wr w' : World} {B R bo c : Nat} {rb cp : Nat → Nat} {q p : Nat} (h : SpI w wr B R bo c rb cp q p) (hb : Below wr.heap.size wr w') : SpI w w' B R bo c rb cp q p :=
  ⟨(hb.cell (p := ⟨B, 0, none⟩) (by have := h.ar.lt; have := h.bl; simp; omega)).trans h.bx, h.bl, h.mt.below hb, h.bo, h.rbo, h.ar.below hb, h.low.trans (hb.mono h.low.size)⟩
theorem SpI.rank {w wr : World} {B R bo c : Nat} {rb cp : Nat → Nat} {q p : Nat} (h : SpI w wr B R bo c rb cp q p) {q' p' : Nat} (e : ∀ i, i < 4 → rankV q p i = rankV q' p' i) : SpI w wr B R bo c rb cp q' p' :=
  ⟨h.bx, h.bl, h.mt, h.bo, h.rbo, h.ar.congr e, h.low⟩
theorem SpI.up {w wr : World} {B R bo c : Nat} {rb cp : Nat → Nat} {q p : Nat} (h : SpI w wr B R bo c rb cp q p) (hq : q < 4) (hpq : p < q) : SpI w (wr.setCell ⟨R, q, none⟩ (.int .i64 ((p : Int) + 1))) B R bo c rb cp q (p + 1) := by
  refine ⟨by rw [World.cell?_setCell_other _ _ _ _ (fun e => absurd (congrArg Addr.block e) (Nat.ne_of_gt h.bl))]; exact h.bx, h.bl, h.mt.far (p := ⟨R, q, none⟩) (by have := h.bo; show R ≠ bo; omega) (fun i hi => by have := h.rbo i hi; show R ≠ rb i; omega) _, h.bo, h.rbo, ?_, h.low.setCell (p := ⟨R, q, none⟩) h.ar.lo _⟩
  refine (h.ar.set hq (.int .i64 ((p : Int) + 1))).congr fun i hi => ?_
  unfold rankV
  by_cases e : i = q
  · subst e
    rw [if_pos rfl, if_neg (by omega), if_pos rfl]
    congr 1; omega
  · rw [if_neg e]
    by_cases e2 : i < q
    · rw [if_pos e2, if_pos e2]
    · rw [if_neg e2, if_neg e2, if_neg e, if_neg e]

/-- the ranks as they end -/
def RkI (wr : World) (R : Nat) : Prop := wr.cell? ⟨R, 0, none⟩ = some (.int .i64 0) ∧ wr.cell? ⟨R, 1, none⟩ = some (.int .i64 1) ∧ wr.cell? ⟨R, 2, none⟩ = some (.int .i64 2) ∧ wr.cell? ⟨R, 3, none⟩ = some (.int .i64 3) ∧ R < wr.heap.size
theorem RkI.below {wr w' : World} {R : Nat} (h : RkI wr R) (hb : Below wr.heap.size wr w') : RkI w' R := by
  obtain ⟨h0, h1, h2, h3, hl⟩ := h
  exact ⟨(hb.cell (p := ⟨R, 0, none⟩) hl).trans h0, (hb.cell (p := ⟨R, 1, none⟩) hl).trans h1, (hb.cell (p := ⟨R, 2, none⟩) hl).trans h2, (hb.cell (p := ⟨R, 3, none⟩) hl).trans h3, by have := hb.size; omega⟩
theorem RkI.set {wr : World} {R O : Nat} (h : RkI wr R) (hne : O ≠ R) (o : Nat) (v : Value) : RkI (wr.setCell ⟨O, o, none⟩ v) R := by
  obtain ⟨h0, h1, h2, h3, hl⟩ := h
  have ne : ∀ i, (⟨O, o, none⟩ : Addr) ≠ ⟨R, i, none⟩ := fun i e => hne (congrArg Addr.block e)
  exact ⟨by rw [World.cell?_setCell_other _ _ _ _ (ne 0)]; exact h0, by rw [World.cell?_setCell_other _ _ _ _ (ne 1)]; exact h1, by rw [World.cell?_setCell_other _ _ _ _ (ne 2)]; exact h2, by rw [World.cell?_setCell_other _ _ _ _ (ne 3)]; exact h3, by simpa [World.setCell] using hl⟩
/-- the spans, ahead of number i -/
structure OutI (w wr : World) (R O i : Nat) : Prop where
  rk : RkI wr R
  ne : O ≠ R
  o0 : wr.cell? ⟨O, 0, none⟩ = some (.int .i64 0)
  o1 : wr.cell? ⟨O, 1, none⟩ = some (.int .i64 (if 0 < i then 1 else 0))
  o2 : wr.cell? ⟨O, 2, none⟩ = some (.int .i64 (if 1 < i then 2 else 0))
  o3 : wr.cell? ⟨O, 3, none⟩ = some (.int .i64 (if 1 < i then 3 else 0))
  fz : ∀ i, wr.frozen? ⟨O, i, none⟩ = false
  lt : O < wr.heap.size
  lo : w.heap.size ≤ O
  low : Below w.heap.size w wr
theorem outI_start {w wr : World} {R : Nat} (h : RkI wr R) (hl : Below w.heap.size w wr) : OutI w (wr.alloc (.cells #[.int .i64 0, .int .i64 0, .int .i64 0, .int .i64 0] 58)) R wr.heap.size 0 := by
  refine ⟨h.below ((Below.refl _ _).alloc (Nat.le_refl _) _), by have := h.2.2.2.2; omega, ?_, ?_, ?_, ?_, fun i => ?_, by simp, hl.size, hl.alloc hl.size _⟩
  · rw [World.cell?_alloc_new]; rfl
  · rw [World.cell?_alloc_new]; rfl
  · rw [World.cell?_alloc_new]; rfl
  · rw [World.cell?_alloc_new]; rfl
  · unfold World.frozen?; rw [heap_alloc_new]; simp
theorem OutI.ext {w wr : World} {R O i : Nat} (h : OutI w wr R O i) (x : Xt) : OutI w (wr.ext x) R O i :=
  ⟨h.rk.below (below_ext wr x), h.ne, (wr.ext_cell x h.lt).trans h.o0, (wr.ext_cell x h.lt).trans h.o1, (wr.ext_cell x h.lt).trans h.o2, (wr.ext_cell x h.lt).trans h.o3, fun i => (wr.ext_frozen x h.lt).trans (h.fz i), by have := h.lt; simp [World.ext]; omega, h.lo, h.low.trans ((below_ext wr x).mono h.low.size)⟩
theorem OutI.step0 {w wr : World} {R O : Nat} (h : OutI w wr R O 0) (x : Xt) : OutI w (((wr.ext x).setCell ⟨O, 0, none⟩ (.int .i64 0)).setCell ⟨O, 1, none⟩ (.int .i64 1)) R O 1 := by
  have h := h.ext x
  have ne : ∀ i j, i ≠ j → (⟨O, i, none⟩ : Addr) ≠ ⟨O, j, none⟩ := fun i j h e => h (congrArg Addr.off e)
  refine ⟨(h.rk.set h.ne 0 _).set h.ne 1 _, h.ne, ?_, ?_, ?_, ?_, fun i => by rw [frozen_setCell, frozen_setCell]; exact h.fz i, by have := h.lt; simpa [World.setCell] using this, h.lo, (h.low.setCell (p := ⟨O, 0, none⟩) h.lo _).setCell (p := ⟨O, 1, none⟩) h.lo _⟩
  · rw [World.cell?_setCell_other _ _ _ _ (ne 1 0 (by omega)), World.cell?_setCell_same _ _ _ h.o0]
  · exact World.cell?_setCell_same _ _ _ (by rw [World.cell?_setCell_other _ _ _ _ (ne 0 1 (by omega))]; exact h.o1)
  · rw [World.cell?_setCell_other _ _ _ _ (ne 1 2 (by omega)), World.cell?_setCell_other _ _ _ _ (ne 0 2 (by omega))]; exact h.o2
  · rw [World.cell?_setCell_other _ _ _ _ (ne 1 3 (by omega)), World.cell?_setCell_other _ _ _ _ (ne 0 3 (by omega))]; exact h.o3
theorem OutI.step1 {w wr : World} {R O : Nat} (h : OutI w wr R O 1) (x : Xt) : OutI w (((wr.ext x).setCell ⟨O, 2, none⟩ (.int .i64 2)).setCell ⟨O, 3, none⟩ (.int .i64 3)) R O 2 := by
  have h := h.ext x
  have ne : ∀ i j, i ≠ j → (⟨O, i, none⟩ : Addr) ≠ ⟨O, j, none⟩ := fun i j h e => h (congrArg Addr.off e)
  refine ⟨(h.rk.set h.ne 2 _).set h.ne 3 _, h.ne, ?_, ?_, ?_, ?_, fun i => by rw [frozen_setCell, frozen_setCell]; exact h.fz i, by have := h.lt; simpa [World.setCell] using this, h.lo, (h.low.setCell (p := ⟨O, 2, none⟩) h.lo _).setCell (p := ⟨O, 3, none⟩) h.lo _⟩
  · rw [World.cell?_setCell_other _ _ _ _ (ne 3 0 (by omega)), World.cell?_setCell_other _ _ _ _ (ne 2 0 (by omega))]; exact h.o0
  · rw [World.cell?_setCell_other _ _ _ _ (ne 3 1 (by omega)), World.cell?_setCell_other _ _ _ _ (ne 2 1 (by omega))]; exact h.o1
  · rw [World.cell?_setCell_other _ _ _ _ (ne 3 2 (by omega)), World.cell?_setCell_same _ _ _ h.o2]; rfl
  · exact World.cell?_setCell_same _ _ _ (by rw [World.cell?_setCell_other _ _ _ _ (ne 2 3 (by omega))]; exact h.o3)

set_option maxRecDepth 100000 in
set_option maxHeartbeats 8000000 in
theorem spans2_any (A : Option Addr) (c0 : Nat) (w : World) (hs : RdS Rl.enc 3 w A lB) : Calls Tryz.prog 131 #[.int .i64 2, .slice A 1 c0] w (SpPost w) := by
  have HSC := Lib.hid (Scenario_any (n := 2) (c := c0) hs (by decide))
  have hmk : ∀ W : World, (Instr.makeSlice 26 (.int .i64 4) (.int .i64 4)).run Tryz.prog W = .ok (.slice (some ⟨W.heap.size, 0, none⟩) 4 4) (W.alloc (.cells #[.int .i64 0, .int .i64 0, .int .i64 0, .int .i64 0] 3)) := make_ints 4 (by omega)
  have hms := make_spans2
  clear hs
  go_enter Tryz.func131, Tryz.ntmps131
  go_wp2_with fail
  refine HSC.out.mono ?_
  rintro e w1 ⟨hb1, ⟨bo, rb, cp, c, M', rfl, hM', hD⟩ | ⟨rfl, hno⟩⟩
  · have hM := hM'.congr (done_mc hD)
    have hI : SpI w ((w1.alloc (.cells #[.slice (some ⟨bo, 0, none⟩) 2 c] 31)).alloc (.cells #[.int .i64 0, .int .i64 0, .int .i64 0, .int .i64 0] 3)) w1.heap.size (w1.heap.size + 1) bo c rb cp 0 0 := by
      have b1 : Below w1.heap.size w1 (w1.alloc (.cells #[.slice (some ⟨bo, 0, none⟩) 2 c] 31)) := (Below.refl _ _).alloc (Nat.le_refl _) _
      have hsz : (w1.alloc (.cells #[.slice (some ⟨bo, 0, none⟩) 2 c] 31)).heap.size = w1.heap.size + 1 := by simp
      have b2 : Below (w1.alloc (.cells #[.slice (some ⟨bo, 0, none⟩) 2 c] 31)).heap.size (w1.alloc (.cells #[.slice (some ⟨bo, 0, none⟩) 2 c] 31)) ((w1.alloc (.cells #[.slice (some ⟨bo, 0, none⟩) 2 c] 31)).alloc (.cells #[.int .i64 0, .int .i64 0, .int .i64 0, .int .i64 0] 3)) := (Below.refl _ _).alloc (Nat.le_refl _) _
      refine ⟨?_, by omega, (hM.below b1).below b2, by have := hM.olt; omega, fun i hi => by have := hM.rlt i hi; omega, ⟨by have := hb1.size; omega, by simp, fun i hi => ?_, fun i => ?_⟩, (hb1.trans (b1.mono hb1.size)).trans (b2.mono (by have := hb1.size; omega))⟩
      · rw [World.cell?_alloc_old _ _ _ (by simp), World.cell?_alloc_new]; rfl
      · rw [← hsz, World.cell?_alloc_new]
        unfold rankV
        rw [if_neg (by omega), Nat.zero_min]
        rcases i with _ | _ | _ | _ | i
        all_goals first | rfl | omega
      · rw [← hsz]; unfold World.frozen?; rw [heap_alloc_new]; simp
    have HI := Lib.hid hI
    clear hM' hD hM hI HSC hb1
    go_wp2
    have HW := HI.out
    generalize hWW : (w1.alloc (.cells #[.slice (some ⟨bo, 0, none⟩) 2 c] 31)).alloc (.cells #[.int .i64 0, .int .i64 0, .int .i64 0, .int .i64 0] 3) = W1 at *
    clear hWW HI hmk
    have HI := Lib.hid HW
    clear HW
    obtain ⟨B, hB⟩ : ∃ B, B = w1.heap.size := ⟨_, rfl⟩
    rw [← hB] at HI ⊢
    obtain ⟨R, hR⟩ : ∃ R, R = B + 1 := ⟨_, rfl⟩
    rw [← hR] at HI ⊢
    clear hB hR
    go_loopg [33] 4 (fun gg s33 wr => ∃ q : Nat, q ≤ 4 ∧ 4 - q ≤ gg ∧ s33 = .int .i64 (q : Int) ∧ Aside (SpI w wr B R bo c rb cp q 0))
    case atStart => exact ⟨0, by omega, by omega, rfl, HI.out⟩
    case round =>
      obtain ⟨q, hq, hg, rfl, HQ⟩ := hrel
      clear HI
      by_cases hlt : q < 4
      · have hltz : (q : Int) < 4 := by omega
        obtain ⟨w2, rfl⟩ : ∃ w2 : World, w2 = wr := ⟨_, rfl⟩
        go_wp2
        go_loopg [38] 4 (fun gg s38 wr => ∃ p : Nat, p ≤ 4 ∧ 4 - p ≤ gg ∧ s38 = .int .i64 (p : Int) ∧ Aside (SpI w wr B R bo c rb cp q p))
        case atStart => exact ⟨0, by omega, by omega, rfl, HQ.out⟩
        case round =>
          obtain ⟨p, hp, hg2, rfl, HP⟩ := hrel
          clear HQ
          by_cases hlt2 : p < 4
          · have hltz2 : (p : Int) < 4 := by omega
            obtain ⟨w3, rfl⟩ : ∃ w3 : World, w3 = wr := ⟨_, rfl⟩
            go_wp2
            go_loopg [13, 42] p (fun gg s13 s42 wr => ∃ o : Nat, o ≤ p ∧ p - o ≤ gg ∧ s42 = .int .i64 (o : Int) ∧ s13 = .bool true ∧ Aside (SpI w wr B R bo c rb cp q p))
            case atStart => exact ⟨0, by omega, by omega, rfl, rfl, HP.out⟩
            case round =>
              obtain ⟨o, ho, hg3, rfl, rfl, HO⟩ := hrel
              clear HP
              by_cases hlt3 : o < p
              · have hltz3 : (o : Int) < (p : Int) := by omega
                have HC := Lib.hid (same_at HO.out.bx (by have := HO.out.bl; have := HO.out.ar.lt; omega) HO.out.mt o p hlt3 hlt2)
                have HO' := Lib.hid HO
                clear HO
                go_wp2_with fail
                refine HC.out.mono ?_
                rintro e w5 ⟨rfl, hb5⟩
                have HO5 := Lib.hid (HO'.out.out.below hb5)
                clear hb5 HC HO'
                go_wp2
                go_roundg (p - (o + 1))
                case measure => omega
                case rel => exact ⟨o + 1, by omega, by omega, by go_num, rfl, HO5.out⟩
              · obtain rfl : o = p := by omega
                have hltz3 : ¬ (o : Int) < (o : Int) := by omega
                have HC := Lib.hid (below_at HO.out.bx (by have := HO.out.bl; have := HO.out.ar.lt; omega) HO.out.mt o q hlt2 hlt)
                have HO' := Lib.hid HO
                clear HO
                by_cases hoq : o < q
                · have HC' := Lib.hid (show Calls Tryz.prog 187 #[.int .i64 (o : Int), .int .i64 (q : Int), .pointer (some ⟨B, 0, none⟩)] wr fun e W' => e = .returned (.bool true) ∧ Below wr.heap.size wr W' by
                    rw [← decide_eq_true hoq]; exact HC.out)
                  clear HC
                  go_wp2_with fail
                  refine HC'.out.mono ?_
                  rintro e w5 ⟨rfl, hb5⟩
                  have HO5 := Lib.hid (HO'.out.out.below hb5)
                  have a1 : w5.cell? ⟨R, q, none⟩ = some (.int .i64 (o : Int)) := by
                    rw [HO5.out.ar.cell q hlt]; unfold rankV; rw [if_neg (by omega), if_pos rfl, Nat.min_eq_left (by omega)]
                  have a2 := HO5.out.ar.fz q
                  have HUP := Lib.hid (HO5.out.up hlt hoq)
                  clear hb5 HC' HO' HO5
                  go_wp2
                  go_roundg (4 - (o + 1))
                  case measure => omega
                  case rel => exact ⟨o + 1, by omega, by omega, by go_num, HUP.out⟩
                · have HC' := Lib.hid (show Calls Tryz.prog 187 #[.int .i64 (o : Int), .int .i64 (q : Int), .pointer (some ⟨B, 0, none⟩)] wr fun e W' => e = .returned (.bool false) ∧ Below wr.heap.size wr W' by
                    rw [← decide_eq_false hoq]; exact HC.out)
                  clear HC
                  go_wp2_with fail
                  refine HC'.out.mono ?_
                  rintro e w5 ⟨rfl, hb5⟩
                  have HO5 := Lib.hid ((HO'.out.out.below hb5).rank (q' := q) (p' := o + 1) (fun i hi => by
                    unfold rankV
                    rw [Nat.min_eq_right (show q ≤ o by omega), Nat.min_eq_right (show q ≤ o + 1 by omega)]))
                  clear hb5 HC' HO'
                  go_wp2
                  go_roundg (4 - (o + 1))
                  case measure => omega
                  case rel => exact ⟨o + 1, by omega, by omega, by go_num, HO5.out⟩
          · obtain rfl : p = 4 := by omega
            have HN := Lib.hid (HP.out.rank (q' := q + 1) (p' := 0) (fun i hi => by
              unfold rankV
              rw [Nat.zero_min, Nat.min_eq_right (show q ≤ 4 by omega)]
              by_cases e : i < q
              · rw [if_pos e, if_pos (by omega)]
              · by_cases e2 : i = q
                · rw [if_neg e, if_pos e2, if_pos (by omega), e2]
                · rw [if_neg e, if_neg e2, if_neg (by omega)]; split <;> rfl))
            clear HP
            go_wp2
            go_roundg (4 - (q + 1))
            case measure => omega
            case rel => exact ⟨q + 1, by omega, by omega, by go_num, HN.out⟩
      · obtain rfl : q = 4 := by omega
        have r0 : wr.cell? ⟨R, 0, none⟩ = some (.int .i64 0) := HQ.out.ar.cell 0 (by omega)
        have r1 : wr.cell? ⟨R, 1, none⟩ = some (.int .i64 1) := HQ.out.ar.cell 1 (by omega)
        have r2 : wr.cell? ⟨R, 2, none⟩ = some (.int .i64 2) := HQ.out.ar.cell 2 (by omega)
        have r3 : wr.cell? ⟨R, 3, none⟩ = some (.int .i64 3) := HQ.out.ar.cell 3 (by omega)
        have hOI := outI_start (w := w) (wr := wr) (R := R) ⟨r0, r1, r2, r3, HQ.out.ar.lt⟩ HQ.out.low
        have HOI := Lib.hid hOI
        clear hOI r0 r1 r2 r3 HQ
        go_wp2
        obtain ⟨O, hO⟩ : ∃ O, O = wr.heap.size := ⟨_, rfl⟩
        rw [← hO] at HOI ⊢
        generalize wr.alloc (.cells #[.int .i64 0, .int .i64 0, .int .i64 0, .int .i64 0] 58) = W2 at *
        clear hO hms
        go_loopg [73] 2 (fun gg s73 wr => ∃ i : Nat, i ≤ 2 ∧ 2 - i ≤ gg ∧ s73 = .int .i64 (i : Int) ∧ Aside (OutI w wr R O i))
        case atStart => exact ⟨0, by omega, by omega, rfl, HOI.out⟩
        case round =>
          obtain ⟨i, hi, hg, rfl, HQ⟩ := hrel
          clear HOI
          rcases i with _ | _ | _ | i
          · have r0 := HQ.out.rk.1
            have r1 := HQ.out.rk.2.1
            have rl := HQ.out.rk.2.2.2.2
            have o0 := HQ.out.o0
            have o1 := HQ.out.o1
            have f0 := HQ.out.fz 0
            have f1 := HQ.out.fz 1
            have ol := HQ.out.lt
            have STEP := Lib.hid (fun x => HQ.out.step0 x)
            have q1 : IntKind.i64.wrap 0 = 0 := by decide
            have q2 : IntKind.i64.wrap 1 = 1 := by decide
            clear HQ
            go_wp2
            refine wp_region_ext_tail 15 (by kernel_rfl) (by kernel_rfl) ?_
            simp only [List.take_succ_cons, List.take_zero, List.drop_succ_cons, List.drop_zero]
            repeat (refine wpQuiet_step (fun K hK => ?_); go_simp; (refine hK _ ?_; clear hK K))
            refine wpQuiet_nil ?_
            intro x0
            have HS := Lib.hid (STEP.out x0)
            clear STEP
            go_wp2
            go_roundg 1
            case measure => omega
            case rel => exact ⟨1, by omega, by omega, by go_num, HS.out⟩
          · have r2 := HQ.out.rk.2.2.1
            have r3 := HQ.out.rk.2.2.2.1
            have rl := HQ.out.rk.2.2.2.2
            have o2 := HQ.out.o2
            have o3 := HQ.out.o3
            have f2 := HQ.out.fz 2
            have f3 := HQ.out.fz 3
            have ol := HQ.out.lt
            have STEP := Lib.hid (fun x => HQ.out.step1 x)
            have q1 : IntKind.i64.wrap 3 = 3 := by decide
            have q2 : IntKind.i64.wrap 2 = 2 := by decide
            clear HQ
            simp only [Nat.zero_add]
            go_wp2
            refine wp_region_ext_tail 15 (by kernel_rfl) (by kernel_rfl) ?_
            simp only [List.take_succ_cons, List.take_zero, List.drop_succ_cons, List.drop_zero]
            repeat (refine wpQuiet_step (fun K hK => ?_); go_simp; (refine hK _ ?_; clear hK K))
            refine wpQuiet_nil ?_
            intro x0
            have HS := Lib.hid (STEP.out x0)
            clear STEP
            go_wp2
            go_roundg 0
            case measure => omega
            case rel => exact ⟨2, by omega, by omega, by go_num, HS.out⟩
          · have HEND := Lib.hid (show SpPost w (.returned (.tuple #[.slice (some ⟨O, 0, none⟩) 2 2, .int .i64 0])) wr from ⟨O, rfl, HQ.out.lt, HQ.out.o1, HQ.out.o2, HQ.out.low⟩)
            clear HQ
            go_wp2
            go_ret2
            exact HEND.out
          · omega
  · exact absurd mc_scen (hno Mc)
end Go.Proofs.YthilkphnjffnhaaGreat

/- schedulesAwake. -/
namespace Go.Proofs.YthilkphnjffnhaaGreat
open Go.RowKit Go.Shelf

set_option maxRecDepth 100000 in
set_option maxHeartbeats 4000000 in
theorem schedulesAwake_any (w : World) : Calls Tryz.prog 66 #[] w fun e w' => e = .returned (.bool true) ∧ Below w.heap.size w w' := by
  have hrd : RdS Rl.enc 3 (w.alloc (.cells #[.int .i64 0, .int .i64 1, .int .i64 1] 51)) (some ⟨w.heap.size, 0, none⟩) lB := rd_blk (enc := Rl.enc) (k := 3) w lB 51 (fun _ => rfl) (by simp)
  have HSP := Lib.hid (spans2_any (some ⟨w.heap.size, 0, none⟩) 1 _ hrd)
  have HB := Lib.hid (show Below w.heap.size w (w.alloc (.cells #[.int .i64 0, .int .i64 1, .int .i64 1] 51)) from (Below.refl _ _).alloc (Nat.le_refl _) _)
  clear hrd
  go_enter Tryz.func66, Tryz.ntmps66
  go_wp2_with fail
  refine HSP.out.mono ?_
  rintro e w1 ⟨g, rfl, hl, c1, c2, hb⟩
  have HB1 := Lib.hid (HB.out.trans (hb.mono HB.out.size))
  clear hb HSP HB
  go_wp2
  go_quiet (fail)
  go_wp2
  go_ret
  exact ⟨rfl, below_drewN HB1.out nq⟩
end Go.Proofs.YthilkphnjffnhaaGreat
