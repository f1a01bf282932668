/- A map from pairs of whole numbers to whole numbers, each element a function of its key: looked up, stored into. -/
import Derived.Test.YthilkphnjffnhaaGreatBase
import Derived.WideKeyPair
import Derived.Maps.OwnSet
set_option linter.unusedSimpArgs false
set_option linter.unusedVariables false
namespace Go.Proofs.YthilkphnjffnhaaGreat
open Go.RowKit Go.Shelf Go.WideMaps Go.Maps
open Go.ChangeMaps (setBlock heap_setBlock_same heap_setBlock_other)

def pairV (x y : Nat) : Value := .agg #[.int .i64 x, .int .i64 y]
/-- block b is a map whose element at (x, y) is f x y, where there is one -/
def CMap (f : Nat → Nat → Nat) (w : World) (b : Nat) : Prop := ∃ es clock, w.heap[b]? = some (.map es clock) ∧ ∀ e ∈ es.toList, ∃ x y : Nat, x < 8192 ∧ y < 8192 ∧ e.key = pairV x y ∧ e.val = .int .i64 (f x y)
theorem CMap.lt {f : Nat → Nat → Nat} {w : World} {b : Nat} (h : CMap f w b) : b < w.heap.size := by
  obtain ⟨es, c, hb, _⟩ := h; exact (Array.getElem?_eq_some_iff.1 hb).1
theorem CMap.of_block {f : Nat → Nat → Nat} {w w' : World} {b : Nat} (h : CMap f w b) (e : w'.heap[b]? = w.heap[b]?) : CMap f w' b := by
  obtain ⟨es, c, hb, h2⟩ := h; exact ⟨es, c, e.trans hb, h2⟩
theorem CMap.below {f : Nat → Nat → Nat} {w w' : World} {b : Nat} (h : CMap f w b) (hb : Below w.heap.size w w') : CMap f w' b := h.of_block (hb.block b h.lt)
theorem CMap.made (f : Nat → Nat → Nat) (w : World) : CMap f (w.alloc (.map #[] 0)) w.heap.size := ⟨#[], 0, (MapKept.heap_alloc w _).1, fun e he => by simp at he⟩
theorem CMap.set {f : Nat → Nat → Nat} {w : World} {b : Nat} (h : CMap f w b) {p : Addr} (hp : p.block ≠ b) (v : Value) : CMap f (w.setCell p v) b := h.of_block (Below.heap_setCell w p v b (fun e => hp e.symm))

section
variable {P : Program} {k e t : TypeId} {f : Nat → Nat → Nat} {w : World} {b : Nat}
theorem wf_small {x : Nat} (h : x < 8192) : (Lit.int .i64 (x : Int)).wf = true := by
  exact WalkArith.wf_i64 (by omega)
theorem CMap.find (A : ArrKey P k e 2) (he : P.underlying e = some (.int .i64)) (hsz : ∃ m, P.types.size = m + 1) {es : Array MapEntry} {clock : Nat} (h : ∀ x ∈ es.toList, ∃ a b : Nat, a < 8192 ∧ b < 8192 ∧ x.key = pairV a b ∧ x.val = .int .i64 (f a b)) (W : World) {x y : Nat} (hx : x < 8192) (hy : y < 8192) :
    ((Instr.findKey k (pairV x y) es.toList).run P W = .ok none W) ∨ ∃ j e0, (Instr.findKey k (pairV x y) es.toList).run P W = .ok (some (j, .int .i64 (f x y))) W ∧ es[j]? = some e0 ∧ e0.key = pairV x y := by
  have K := A.law
  have hk := keyOf_pair A he hsz (wf_small hx) (wf_small hy)
  rcases K.find W hk es.toList (fun z hz => by
    obtain ⟨a, b, ha, hb, e1, _⟩ := h z hz
    exact ⟨_, by rw [e1]; exact keyOf_pair A he hsz (wf_small ha) (wf_small hb)⟩) with ⟨h1, _⟩ | ⟨j, e0, h1, h2, h3⟩
  · exact .inl h1
  · obtain ⟨a, b', ha, hb', e1, e2⟩ := h e0 (List.mem_of_getElem? h2)
    have e3 : pairV x y = pairV a b' := h3.symm.trans e1
    simp only [pairV, Value.agg.injEq, Array.mk.injEq, List.cons.injEq, Value.int.injEq, true_and, and_true] at e3
    obtain ⟨e4, e5⟩ := e3
    have e4' : x = a := by omega
    have e5' : y = b' := by omega
    subst e4' e5'
    rw [e2] at h1
    exact .inr ⟨j, e0, h1, by simpa using h2, h3⟩
/-- looked up with ok -/
theorem CMap.look (A : ArrKey P k e 2) (he : P.underlying e = some (.int .i64)) (hsz : ∃ m, P.types.size = m + 1) (ht : P.underlying t = some (.map k e)) (hz : (zeroValue e).run P w = .ok (.int .i64 0) w) (h : CMap f w b) {x y : Nat} (hx : x < 8192) (hy : y < 8192) :
    (Instr.lookup t (.map (some b)) (pairV x y) true).run P w = .ok (.tuple #[.int .i64 0, .bool false]) w ∨ (Instr.lookup t (.map (some b)) (pairV x y) true).run P w = .ok (.tuple #[.int .i64 (f x y), .bool true]) w := by
  obtain ⟨es, clock, hb, hes⟩ := h
  have K := A.law
  have hk := keyOf_pair A he hsz (wf_small hx) (wf_small hy)
  have hck : ∀ em, (Instr.checkKey em 10000 k (pairV x y)).run P w = .ok () w := fun em => K.check w em hk
  rcases CMap.find (clock := clock) A he hsz hes w hx hy with h1 | ⟨j, e0, h1, _, _⟩
  · exact .inl (by simp [Instr.lookup, run_underlying ht, MapKept.run_getObj_map hb, hck, h1, hz, Result.andThen])
  · exact .inr (by simp [Instr.lookup, run_underlying ht, MapKept.run_getObj_map hb, hck, h1, Result.andThen])
/-- stored into: block b alone turns -/
theorem CMap.update (A : ArrKey P k e 2) (he : P.underlying e = some (.int .i64)) (hsz : ∃ m, P.types.size = m + 1) (ht : P.underlying t = some (.map k e)) (h : CMap f w b) {x y : Nat} (hx : x < 8192) (hy : y < 8192) :
    ∃ w', (Instr.mapUpdate t (.map (some b)) (pairV x y) (.int .i64 (f x y))).run P w = .ok () w' ∧ CMap f w' b ∧ w.grownBy w' (some b) := by
  obtain ⟨es, clock, hb, hes⟩ := h
  have K := A.law
  have hk := keyOf_pair A he hsz (wf_small hx) (wf_small hy)
  have hck : ∀ em, (Instr.checkKey em 10000 k (pairV x y)).run P w = .ok () w := fun em => K.check w em hk
  have hgr : ∀ es' clock', w.grownBy (setBlock w b (.map es' clock')) (some b) := fun es' clock' =>
    ⟨rfl, rfl, rfl, by simp [setBlock], fun i _ hi => heap_setBlock_other hb _ (fun e => hi (by rw [e]))⟩
  rcases CMap.find (clock := clock) A he hsz hes w hx hy with h1 | ⟨j, e0, h1, h2, h3⟩
  · refine ⟨setBlock w b (.map (es.push ⟨pairV x y, .int .i64 (f x y), clock⟩) (clock + 1)), ?_, ⟨_, _, heap_setBlock_same hb _, fun z hz => ?_⟩, hgr _ _⟩
    · simp [Instr.mapUpdate, run_underlying ht, MapKept.run_getObj_map hb, hck, h1, MapKept.run_setObj_map _ hb, Result.andThen, setBlock]
    · simp only [Array.toList_push, List.mem_append, List.mem_singleton] at hz
      rcases hz with hz | rfl
      · exact hes z hz
      · exact ⟨x, y, hx, hy, rfl, rfl⟩
  · have hst : (Instr.keyThatStays (pairV x y) (pairV x y)).run P w = .ok (pairV x y) w := K.stays w hk
    have hjl : j < es.size := (Array.getElem?_eq_some_iff.1 h2).1
    have hjk : ((es[j]?).map (·.key)).getD (pairV x y) = pairV x y := by rw [h2]; exact h3
    refine ⟨setBlock w b (.map (es.modify j fun e => { e with key := pairV x y, val := .int .i64 (f x y) }) clock), ?_, ⟨_, _, heap_setBlock_same hb _, fun z hz => ?_⟩, hgr _ _⟩
    · simp [Instr.mapUpdate, run_underlying ht, MapKept.run_getObj_map hb, hck, h1, h2, h3, hst, MapKept.run_setObj_map _ hb, Result.andThen, setBlock]
    · obtain ⟨i, hi, e1⟩ := List.getElem_of_mem hz
      simp only [Array.getElem_toList, Array.getElem_modify] at e1
      split at e1
      · rw [← e1]; exact ⟨x, y, hx, hy, rfl, rfl⟩
      · rw [← e1]; exact hes _ (by simp)
end
section
variable {P : Program} {ops : Array Oper} {rest : List Oper} {o : Oper} {a : Act} {Q : Exit → Act → World → Prop} {k e t : TypeId} {f : Nat → Nat → Nat} {w : World} {b : Nat}
theorem wpList_look_cmap (hg : o.guard = none) (m x : Operand) (hop : o.op = Op.lookup t m x true) (A : ArrKey P k e 2) (he : P.underlying e = some (.int .i64)) (hsz : ∃ m, P.types.size = m + 1) (ht : P.underlying t = some (.map k e)) (hz : (zeroValue e).run P w = .ok (.int .i64 0) w)
    (hm : a.eval m = .map (some b)) (h : CMap f w b) {i j : Nat} (hi : i < 8192) (hj : j < 8192) (hx : a.eval x = pairV i j)
    (hno : wpList P ops Q rest (a.put o.dst (.tuple #[.int .i64 0, .bool false])) w) (hyes : wpList P ops Q rest (a.put o.dst (.tuple #[.int .i64 (f i j), .bool true])) w) : wpList P ops Q (o :: rest) a w := by
  refine wpList_plain hg fun K' hK' => ?_
  unfold Oper.wp
  rcases h.look A he hsz ht hz hi hj with h1 | h1
  · simp [execOp, hop, hm, hx, h1, Result.andThen]; exact hK' _ _ hno
  · simp [execOp, hop, hm, hx, h1, Result.andThen]; exact hK' _ _ hyes
theorem wpList_update_cmap (hg : o.guard = none) (m x v : Operand) (hop : o.op = Op.mapUpdate t m x v) (A : ArrKey P k e 2) (he : P.underlying e = some (.int .i64)) (hsz : ∃ m, P.types.size = m + 1) (ht : P.underlying t = some (.map k e))
    (hm : a.eval m = .map (some b)) (h : CMap f w b) {i j : Nat} (hi : i < 8192) (hj : j < 8192) (hx : a.eval x = pairV i j) (hv : a.eval v = .int .i64 (f i j))
    (hK : ∀ w', CMap f w' b → w.grownBy w' (some b) → wpList P ops Q rest (a.put o.dst undef) w') : wpList P ops Q (o :: rest) a w := by
  refine wpList_plain hg fun K' hK' => ?_
  obtain ⟨w', hrun, r1, r2⟩ := h.update A he hsz ht hi hj
  unfold Oper.wp
  simp [execOp, hop, hm, hx, hv, hrun, Result.andThen]
  exact hK' _ _ (hK w' r1 r2)
end
end Go.Proofs.YthilkphnjffnhaaGreat
