/- allen.Compose. -/
import Derived.Test.YthilkphnjffnhaaGreatInv
import Derived.Test.YthilkphnjffnhaaGreatTab
set_option linter.unusedSimpArgs false
set_option linter.unusedVariables false
namespace Go.Proofs.YthilkphnjffnhaaGreat
open Go.RowKit Go.Shelf
attribute [local go_sem] Oper.semAt_some

def cpsI (o r : Nat) (pre : List R13) : Nat := pre.foldl (fun o s => o ||| tabF r s.1) o
def cpsO (b : Nat) (pre : List R13) : Nat := pre.foldl (fun o r => cpsI o r.1 (bitsF b)) 0
theorem cpsI_snoc (o r : Nat) (pre : List R13) (x : R13) : cpsI o r (pre ++ [x]) = cpsI o r pre ||| tabF r x.1 := by simp [cpsI]
theorem cpsO_snoc (b : Nat) (pre : List R13) (x : R13) : cpsO b (pre ++ [x]) = cpsI (cpsO b pre) x.1 (bitsF b) := by simp [cpsO]
theorem cpsI_eq (o r b : Nat) : cpsI o r (bitsF b) = (bitsL b).foldl (fun o s => o ||| tabF r s) o := by
  unfold cpsI; rw [← bitsF_map, List.foldl_map]
theorem cpsO_all (a b : Nat) : cpsO b (bitsF a) = compN a b := by
  unfold cpsO compN
  rw [← bitsF_map a, List.foldl_map]
  congr 1
  funext o r
  exact cpsI_eq o r.1 b
theorem cpsI_lt {o r : Nat} (h : o < 8192) (pre : List R13) : cpsI o r pre < 8192 := fold_lt (fun s : R13 => tabF r s.1) 13 pre o h (fun s _ => tabF_lt r s.1)
theorem cpsO_lt' (b : Nat) : ∀ (pre : List R13) (o : Nat), o < 8192 → pre.foldl (fun o r => cpsI o r.1 (bitsF b)) o < 8192
  | [], _, h => h
  | r :: l, o, h => cpsO_lt' b l _ (cpsI_lt h _)
theorem cpsO_lt (b : Nat) (pre : List R13) : cpsO b pre < 8192 := cpsO_lt' b pre 0 (by decide)

/-- the table's block -/
def TabB (W : World) (B : Nat) : Prop := W.heap[B]? = some (.cells (tabCells tabF) 330 (0, 0))
theorem tabB_own {β : Type} (B : Nat) : Own (fun (_ : β) W => TabB W B) := fun _ X Y row hs hg hrow => by
  refine (hg.block B (Array.getElem?_eq_some_iff.1 hs).1 (fun e => ?_)).trans hs
  obtain ⟨o, ho, hc⟩ := hrow B e.symm
  rw [show X.heap[B]? = _ from hs] at ho
  cases ho; cases hc
theorem TabB.lt {W : World} {B : Nat} (h : TabB W B) : B < W.heap.size := (Array.getElem?_eq_some_iff.1 h).1
theorem TabB.below {W W' : World} {B : Nat} (h : TabB W B) (hb : Below W.heap.size W W') : TabB W' B := (hb.block B h.lt).trans h
theorem TabB.set {W : World} {B B' : Nat} (h : TabB W B) (hne : B ≠ B') (v : Value) : TabB (W.setCell ⟨B', 0, none⟩ v) B := (Below.heap_setCell _ _ _ _ hne).trans h
theorem TabB.cell {W : World} {B : Nat} (h : TabB W B) {p q : Nat} (hp : p < 13) (hq : q < 13) : W.cell? ⟨B, p * 13 + q, none⟩ = some (.int .i64 ((tabF p q : Nat) : Int)) := by
  rw [cell_of_row _ _ _ _ _ _ h]; exact tabCells_at tabF hp hq
theorem boxed_keep {W W' : World} {B : Nat} {t : TypeId} {v : Value} (h : Boxed W B t v) (hb : Below W.heap.size W W') : Boxed W' B t v := (hb.block B h.lt).trans h
theorem kpB_boxed {W W' : World} {B : Nat} {t : TypeId} {v : Value} (h : Boxed W B t v) (h' : Boxed W' B t v) : KpB B W W' := Eq.trans h' (Eq.symm h)

set_option maxRecDepth 100000 in
set_option maxHeartbeats 8000000 in
theorem compose_any (a b : Nat) (ha : a < 8192) (hb : b < 8192) (w : World) : Calls Tryz.prog 257 #[.int .i64 (a : Int), .int .i64 (b : Int)] w fun e w' => e = .returned (.int .i64 ((compN a b : Nat) : Int)) ∧ Below w.heap.size w w' := by
  have hseta := Lib.hid (show setB (a : Int) = true by simp [setB]; omega)
  have hsetb := Lib.hid (show setB (b : Int) = true by simp [setB]; omega)
  have hro : Fence.wide.round = none := rfl
  refine (callsIn_wide (n := 20)).1 ?_
  refine callsIn_of_wp_marks Tryz.func257 rfl trivial ?_ hro
  simp only [Tryz.ntmps257, List.size_toArray, List.length_cons, List.length_nil, Nat.reduceAdd, Nat.reduceSub, Array.replicate_succ, Array.replicate_zero, List.push_toArray, List.append_toArray, List.nil_append, List.cons_append]
  refine wpIn_wide.2 ?_
  have SA := Lib.hid (fun W => (isSet_any (a : Int) W).mono (fun e w' h => (show e = .returned (.bool true) ∧ W = w' by rw [← hseta.out]; exact h)))
  have SB := Lib.hid (fun W => (isSet_any (b : Int) W).mono (fun e w' h => (show e = .returned (.bool true) ∧ W = w' by rw [← hsetb.out]; exact h)))
  go_wp2_with fail
  refine (SA.out _).mono ?_
  rintro e w1 ⟨rfl, rfl⟩
  go_wp2_with fail
  refine (SB.out _).mono ?_
  rintro e w1 ⟨rfl, rfl⟩
  go_wp2_with fail
  refine (table_any _).mono ?_
  rintro e w1 ⟨rfl, hb1⟩
  have bB0 : Boxed w1 w.heap.size 3 (.int .i64 (b : Int)) := boxed_keep (Boxed.new w 3 (.int .i64 (b : Int))) hb1
  have hlow : Below w.heap.size w w1 := ((Below.refl _ _).alloc (Nat.le_refl _) _).trans (hb1.mono (by simp))
  have hsz1 : (Tryz.prog.info? 330).map (·.size) = some (tabCells tabF).size := by rw [tabCells_size]; exact info330
  have hsz2 : Tryz.zeroCells330.size = (tabCells tabF).size := by rw [tabCells_zero, tabCells_size, tabCells_size]
  have hone := tabCells_one tabF
  have hnew := heap_alloc_new w1 (.cells Tryz.zeroCells330 330)
  have hset : (w1.alloc (.cells Tryz.zeroCells330 330)).setRow w1.heap.size (tabCells tabF) = w1.alloc (.cells (tabCells tabF) 330) := World.setRow_alloc_new _ _ _ _
  have H1 := Lib.hid hsz1; have H2 := Lib.hid hsz2; have H3 := Lib.hid hone; have H4 := Lib.hid hnew; have H5 := Lib.hid hset
  have HB0 := Lib.hid bB0; have HLO := Lib.hid hlow
  clear hsz1 hsz2 hone hnew hset bB0 hlow hb1
  obtain ⟨cs, hcs⟩ : ∃ cs, cs = tabCells tabF := ⟨_, rfl⟩
  rw [← hcs] at H1 H2 H3 H5 ⊢
  have HCS := Lib.hid hcs
  clear hcs
  have bcell := HB0.out.cell
  have hlt0 := HB0.out.lt
  go_wp2_with (refine wpList_store_row rfl 330 _ _ rfl w1.heap.size cs rfl rfl 330 _ H4.out H1.out H2.out H3.out ?_; rw [H5.out])
  refine ((callsIn_wide (n := 0)).1 (each_in Fence.wide 0 trivial hro (a : Int) _)).mono ?_
  rintro e w2 ⟨rfl, hw2⟩
  rw [hw2]
  go_wp2
  refine (wpIn_wide (n := 20)).1 ?_
  have bT : TabB (w1.alloc (.cells cs 330)) w1.heap.size := by
    rw [HCS.out]; exact heap_alloc_new w1 _
  have bO := Boxed.new (w1.alloc (.cells cs 330)) 3 (.int .i64 0)
  have bA := Boxed.new ((w1.alloc (.cells cs 330)).alloc (.cells #[.int .i64 0] 3)) 3 (.int .i64 (a : Int))
  rw [World.size_alloc] at bO
  rw [World.size_alloc, World.size_alloc] at bA
  have bT0 : TabB (((w1.alloc (.cells cs 330)).alloc (.cells #[.int .i64 0] 3)).alloc (.cells #[.int .i64 (a : Int)] 3)) w1.heap.size :=
    (bT.below ((Below.refl _ _).alloc (Nat.le_refl _) _)).below ((Below.refl _ _).alloc (Nat.le_refl _) _)
  have bO0 := bO.alloc (.cells #[.int .i64 (a : Int)] 3)
  have bB := ((HB0.out.alloc (.cells cs 330)).alloc (.cells #[.int .i64 0] 3)).alloc (.cells #[.int .i64 (a : Int)] 3)
  have hB0 : Below w.heap.size w (((w1.alloc (.cells cs 330)).alloc (.cells #[.int .i64 0] 3)).alloc (.cells #[.int .i64 (a : Int)] 3)) := HLO.out.trans (((((Below.refl _ w1).alloc (Nat.le_refl _) _).alloc (by simp) _).alloc (by simp; omega) _).mono HLO.out.size)
  have hsz : (((w1.alloc (.cells cs 330)).alloc (.cells #[.int .i64 0] 3)).alloc (.cells #[.int .i64 (a : Int)] 3)).heap.size = w1.heap.size + 3 := by simp
  obtain ⟨W0, hW0⟩ : ∃ W0, ((w1.alloc (.cells cs 330)).alloc (.cells #[.int .i64 0] 3)).alloc (.cells #[.int .i64 (a : Int)] 3) = W0 := ⟨_, rfl⟩
  rw [hW0] at bT0 bO0 bB bA hB0 hsz ⊢
  clear hW0 hw2 bT bO H1 H2 H3 H4 H5 HB0 HLO SA SB hseta hsetb
  refine wpIn_rangeFunc_ownH hro (by omega) (gf := 142) (lb := #[.pointer (some ⟨w1.heap.size + 1 + 1, 0, none⟩)]) rfl trivial (enters_of Tryz.func142 (by kernel_rfl) rfl)
    (each_stops Fence.wide (20 - 1) trivial hro (by omega) (w1.heap.size + 1 + 1) a ha W0 (by omega) bA.cell) kpB_t (kpB_b (by omega)) (Below.refl _ _) (fun _ => rfl)
    (fun pre W => ((Boxed W (w1.heap.size + 1) 3 (.int .i64 ((cpsO b pre : Nat) : Int)) ∧ Boxed W w.heap.size 3 (.int .i64 (b : Int))) ∧ (TabB W w1.heap.size ∧ Boxed W (w1.heap.size + 1 + 1) 3 (.int .i64 (a : Int)))) ∧ Below w.heap.size w W)
    (fun _ _ _ => False)
    (OwnFrom.and (OwnFrom.and (OwnFrom.and (Own.from (boxed_own _ _ _) _) (Own.from (boxed_own _ _ _) _)) (OwnFrom.and (Own.from (tabB_own _) _) (Own.from (boxed_own _ _ _) _))) (ownFrom_below (Nat.le_refl _) (by omega)))
    (fun _ _ _ _ _ hs _ _ => hs)
    ⟨⟨⟨bO0, bB⟩, bT0, bA⟩, hB0⟩
    (fun x a' W => ∃ Bx, w1.heap.size + 1 + 1 < Bx ∧ Boxed W Bx 3 (.int .i64 (x.1 : Int)) ∧ a' = { tmps := #[.int .i64 (a : Int), .int .i64 (b : Int), undef, .pointer (some ⟨w.heap.size, 0, none⟩), .int .i64 0, .pointer (some ⟨w1.heap.size, 0, none⟩), .pointer (some ⟨w1.heap.size + 1, 0, none⟩), .pointer (some ⟨Bx, 0, none⟩), undef, .int .i64 (a : Int), .bool true, .bool false, .bool false, .int .i64 (b : Int), .bool true, .bool false, .bool false, .agg cs, .int .i64 (a : Int), .func (.func 142) #[] #[.pointer (some ⟨w1.heap.size + 1 + 1, 0, none⟩)], .int .i64 (x.1 : Int), undef, undef, undef, undef, undef, undef, undef, undef, undef, undef, undef], defers := [] })
    (fun x a' _ X Y row hs hg hr => by obtain ⟨Bx, h1, h2, h3⟩ := hs; exact ⟨Bx, h1, boxed_own Bx 3 (fun (_ : Unit) => Value.int .i64 (x.1 : Int)) () X Y row h2 hg (fun r e => (hr r e).2), h3⟩)
    ?assign ?body ?done ?stop
  case assign =>
    rintro l pre x W K ⟨⟨⟨bS1, bB1⟩, bT1, bA1⟩, hB1⟩ hK
    gi_wp2
    exact hK _ _ ((KeepsOthers.alloc _ _).from _) (kpB_below ((Below.refl _ W).alloc (Nat.le_refl _) _) bA1.lt) ⟨⟨⟨bS1.alloc _, bB1.alloc _⟩, bT1.below ((Below.refl _ _).alloc (Nat.le_refl _) _), bA1.alloc _⟩, hB1.alloc hB1.size _⟩ ⟨W.heap.size, bA1.lt, Boxed.new W 3 _, rfl⟩
  case body =>
    rintro l pre ⟨x, hx⟩ a' W hl ⟨r, hr⟩ ⟨⟨⟨bS1, bB1⟩, bT1, bA1⟩, hB1⟩ ⟨Bx, hBx, bX, rfl⟩ hlt
    have cB := bB1.cell
    gi_wp2_with (refine ⟨trivial, ?_⟩; gi_at_call 77; refine (CallsIn.inRound l (each_in Fence.wide _ trivial hro _ _)).mono ?_; rintro e w' ⟨rfl, rfl⟩)
    have hsW := hB1.size
    have bN := Boxed.new W 3 (.int .i64 (b : Int))
    have hr' : (W.alloc (.cells #[.int .i64 (b : Int)] 3)).heap[l]? = some (.loop r) := (Below.heap_alloc W _ l (Array.getElem?_eq_some_iff.1 hr).1).trans hr
    have hTl := bT1.lt
    have hSl := bS1.lt
    refine wpIn_rangeFunc_ownN (l₀ := l) (r₀ := r) rfl hr' (by omega) (gf := 142) (lb := #[.pointer (some ⟨W.heap.size, 0, none⟩)]) rfl trivial (enters_of Tryz.func142 (by kernel_rfl) rfl)
      ((each_stops Fence.wide (20 - 1 - 1 - 1) trivial hro (by omega) W.heap.size b hb _ (by simp) bN.cell).inRound l) kpB_t (kpB_b (by simp)) (Below.refl _ _) (fun _ => rfl)
      (fun pre' W' => ((Boxed W' (w1.heap.size + 1) 3 (.int .i64 ((cpsI (cpsO b pre) x pre' : Nat) : Int)) ∧ Boxed W' w.heap.size 3 (.int .i64 (b : Int))) ∧ (TabB W' w1.heap.size ∧ Boxed W' (w1.heap.size + 1 + 1) 3 (.int .i64 (a : Int)))) ∧ ((Boxed W' Bx 3 (.int .i64 (x : Int)) ∧ Boxed W' W.heap.size 3 (.int .i64 (b : Int))) ∧ (Below w.heap.size W W' ∧ KeepsFrom W0.heap.size W W')))
      (fun _ _ _ => False)
      (OwnFrom.and (OwnFrom.and (OwnFrom.and (Own.from (boxed_own _ _ _) _) (Own.from (boxed_own _ _ _) _)) (OwnFrom.and (Own.from (tabB_own _) _) (Own.from (boxed_own _ _ _) _))) (OwnFrom.and (OwnFrom.and (Own.from (boxed_own _ _ _) _) (Own.from (boxed_own _ _ _) _)) (OwnFrom.and (ownFrom_below hsW (by simp; omega)) (ownFrom_keepsFrom (by simp)))))
      (fun _ _ _ _ _ hs _ _ => hs)
      ⟨⟨⟨bS1.alloc _, bB1.alloc _⟩, bT1.below ((Below.refl _ _).alloc (Nat.le_refl _) _), bA1.alloc _⟩, ⟨bX.alloc _, bN⟩, (Below.refl _ W).alloc hsW _, (KeepsOthers.alloc _ _).from _⟩
      (fun y a'' _ => a'' = { tmps := #[.int .i64 (a : Int), .int .i64 (b : Int), undef, .pointer (some ⟨w.heap.size, 0, none⟩), .int .i64 0, .pointer (some ⟨w1.heap.size, 0, none⟩), .pointer (some ⟨w1.heap.size + 1, 0, none⟩), .pointer (some ⟨Bx, 0, none⟩), .int .i64 (y.1 : Int), .int .i64 (a : Int), .bool true, .bool false, .bool false, .int .i64 (b : Int), .bool true, .bool false, .bool false, .agg cs, .int .i64 (a : Int), .func (.func 142) #[] #[.pointer (some ⟨w1.heap.size + 1 + 1, 0, none⟩)], .int .i64 (x : Int), .int .i64 (b : Int), .func (.func 142) #[] #[.pointer (some ⟨W.heap.size, 0, none⟩)], .int .i64 (y.1 : Int), undef, undef, undef, undef, undef, undef, undef, undef], defers := [] })
      (fun _ _ _ _ _ _ hs _ _ => hs)
      ?assign2 ?body2 ?done2 ?stop2
    case assign2 =>
      rintro l2 pre' y W' K hi hK
      gi_wp2
      exact hK _ _ (KeepsFrom.refl _ _) rfl hi rfl
    case body2 =>
      rintro l2 pre' ⟨y, hy⟩ a'' W' _ _ ⟨⟨⟨bS2, bB2⟩, bT2, bA2⟩, ⟨bX2, bN2⟩, hBW, hKF⟩ rfl _
      have cS := bS2.cell
      have fS := bS2.frozen
      have cX := bX2.cell
      have cT := bT2.cell hx hy
      have hmx : Tryz.prog.follows .mixedOrders = true := by kernel_rfl
      have HSN := Lib.hid (cpsI_snoc (cpsO b pre) x pre' ⟨y, hy⟩)
      have hlt1 := cpsI_lt (r := x) (cpsO_lt b pre) pre'
      have hlt2 := tabF_lt x y
      generalize cpsI (cpsO b pre) x pre' = o1 at *
      obtain ⟨t1, ht1⟩ : ∃ t, t = tabF x y := ⟨_, rfl⟩
      rw [← ht1] at cT hlt2
      have HT1 := Lib.hid ht1
      clear ht1
      have hor := or_i64 o1 t1 (by omega) (by omega)
      have hxz : (x : Int) < 13 := by omega
      have hyz : (y : Int) < 13 := by omega
      gi_wp2
      gi_region_with_o (fail)
      all_goals gi_wp2
      all_goals exact ⟨((KeepsOthers.setCell _ _ _).trans (KeepsOthers.drew _)).from _, kpB_set _ (by show w1.heap.size + 1 ≠ W.heap.size; omega) _, ⟨⟨by rw [HSN.out, ← HT1.out]; exact bS2.set _, bB2.other (by omega) _⟩, bT2.set (by omega) _, bA2.other (by omega) _⟩, ⟨bX2.other (by omega) _, bN2.other (by omega) _⟩, (hBW.setCell (p := ⟨w1.heap.size + 1, 0, none⟩) (by show w.heap.size ≤ w1.heap.size + 1; omega) _).drew, hKF.trans (((KeepsOthers.setCell _ _ _).trans (KeepsOthers.drew _)).from _)⟩
    case done2 =>
      rintro ys' W' rfl ⟨⟨⟨bS2, bB2⟩, bT2, bA2⟩, ⟨bX2, bN2⟩, hBW, hKF⟩
      gi_wp2
      exact ⟨hKF, kpB_boxed bA1 bA2, ⟨⟨⟨by rw [cpsO_snoc]; exact bS2, bB2⟩, bT2, bA2⟩, hB1.trans hBW⟩⟩
    case stop2 =>
      rintro c pre' W' _ h
      exact h.elim
  case done =>
    rintro D zs W hD rfl ⟨⟨⟨bS1, bB1⟩, bT1, bA1⟩, hB1⟩ hK
    have cS := bS1.cell
    go_wp2
    refine ⟨by simp, .inl ⟨_, _, rfl, run_takeDeferred hK, ?_⟩⟩
    exact ⟨_, results_tmp rfl _ _ _, by rw [cpsO_all]; rfl, hB1.trans (belowK_b (w := w) (Nat.le_refl _) W D _ _ (by omega) hK rfl rfl)⟩
  case stop =>
    rintro D c pre W _ _ h _
    exact h.elim
end Go.Proofs.YthilkphnjffnhaaGreat
