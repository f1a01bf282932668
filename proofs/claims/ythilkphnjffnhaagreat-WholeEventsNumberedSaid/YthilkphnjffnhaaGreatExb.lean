/- A world in which one map has been written and to which blocks have been added; regions whose operations read other blocks, or call what does just that. -/
import Derived.Test.YthilkphnjffnhaaGreatExt
import Derived.Test.YthilkphnjffnhaaGreatCmp
set_option linter.unusedSimpArgs false
set_option linter.unusedVariables false
namespace Go.Proofs.YthilkphnjffnhaaGreat
open Go.RowKit Go.Shelf

/-- block b alone, below lo, has turned -/
structure KeepB (lo b : Nat) (w w' : World) : Prop where
  os : w'.os = w.os
  tape : w'.tape = w.tape
  output : w'.output = w.output
  size : w.heap.size ≤ w'.heap.size
  block : ∀ k, k < lo → k ≠ b → w'.heap[k]? = w.heap[k]?
section
variable {lo b : Nat} {w w' w'' : World}
theorem KeepB.refl (lo b : Nat) (w : World) : KeepB lo b w w := ⟨rfl, rfl, rfl, Nat.le_refl _, fun _ _ _ => rfl⟩
theorem KeepB.trans (h : KeepB lo b w w') (h2 : KeepB lo b w' w'') : KeepB lo b w w'' :=
  ⟨h2.os.trans h.os, h2.tape.trans h.tape, h2.output.trans h.output, Nat.le_trans h.size h2.size, fun k hk hne => (h2.block k hk hne).trans (h.block k hk hne)⟩
theorem KeepB.mono {lo' : Nat} (h : KeepB lo b w w') (hl : lo' ≤ lo) : KeepB lo' b w w' := ⟨h.os, h.tape, h.output, h.size, fun k hk hne => h.block k (by omega) hne⟩
theorem KeepB.of_below (h : Below lo w w') : KeepB lo b w w' := ⟨h.os, h.tape, h.output, h.size, fun k hk _ => h.block k hk⟩
theorem KeepB.below (h : KeepB lo b w w') (hb : lo ≤ b) : Below lo w w' := ⟨h.os, h.tape, h.output, h.size, fun k hk => h.block k hk (by omega)⟩
theorem KeepB.of_grown (h : w.grownBy w' (some b)) (hl : lo ≤ w.heap.size) : KeepB lo b w w' := ⟨h.os, h.tape, h.output, h.size, fun k hk hne => h.block k (by omega) (by simpa using hne)⟩
theorem KeepB.set (h : KeepB lo b w w') {p : Addr} (hp : lo ≤ p.block) (v : Value) : KeepB lo b w (w'.setCell p v) :=
  h.trans ⟨rfl, rfl, rfl, by simp [World.setCell], fun k hk _ => Below.heap_setCell w' p v k (by omega)⟩
theorem KeepB.drew (h : KeepB lo b w w') : KeepB lo b w w'.drew := h.trans ⟨rfl, rfl, rfl, Nat.le_refl _, fun _ _ _ => rfl⟩
theorem KeepB.cell (h : KeepB lo b w w') {p : Addr} (hp : p.block < lo) (hne : p.block ≠ b) : w'.cell? p = w.cell? p := World.cell?_of_block (h.block _ hp hne)
theorem KeepB.frozen (h : KeepB lo b w w') {p : Addr} (hp : p.block < lo) (hne : p.block ≠ b) : w'.frozen? p = w.frozen? p := World.frozen?_of_block (h.block _ hp hne)
end

/-- what has been added, and what the map holds -/
structure Xb (f : Nat → Nat → Nat) where
  o : Array Obj
  n : Nat
  es : Array MapEntry
  c : Nat
  ok : ∀ e ∈ es.toList, ∃ x y : Nat, x < 8192 ∧ y < 8192 ∧ e.key = pairV x y ∧ e.val = .int .i64 (f x y)
variable {f : Nat → Nat → Nat}
instance : Inhabited (Xb f) := ⟨⟨#[], 0, #[], 0, fun e he => by simp at he⟩⟩
def exb (w : World) (b : Nat) (x : Xb f) : World := { w with heap := w.heap.setIfInBounds b (.map x.es x.c) ++ x.o, drawn := x.n }
section
variable (w : World) (b : Nat) (x : Xb f)
@[go_sem] theorem exb_size : (exb w b x).heap.size = w.heap.size + x.o.size := by simp [exb]
theorem exb_get {k : Nat} (h : k < w.heap.size) (hne : k ≠ b) : (exb w b x).heap[k]? = w.heap[k]? := by
  simp only [exb]
  rw [Array.getElem?_append]
  simp only [Array.size_setIfInBounds, h, if_true]
  rw [Array.getElem?_setIfInBounds_ne (by omega)]
theorem exb_map (h : b < w.heap.size) : (exb w b x).heap[b]? = some (.map x.es x.c) := by
  simp only [exb]
  rw [Array.getElem?_append]
  simp [h]
@[go_sem] theorem exb_cell {a : Addr} (h : a.block < w.heap.size) (hne : a.block ≠ b) : (exb w b x).cell? a = w.cell? a := World.cell?_of_block (w := w) (exb_get w b x h hne)
@[go_sem] theorem exb_frozen {a : Addr} (h : a.block < w.heap.size) (hne : a.block ≠ b) : (exb w b x).frozen? a = w.frozen? a := World.frozen?_of_block (w := w) (exb_get w b x h hne)
theorem exb_cmap (h : b < w.heap.size) : CMap f (exb w b x) b := ⟨x.es, x.c, exb_map w b x h, x.ok⟩
theorem exb_grown : w.grownBy (exb w b x) (some b) := ⟨rfl, rfl, rfl, by simp [exb], fun k hk hne => exb_get w b x hk (by simpa using hne)⟩
end
theorem is_exb {w W : World} {b : Nat} (hc : CMap f W b) (hg : w.grownBy W (some b)) (hb : b < w.heap.size) : ∃ x : Xb f, W = exb w b x := by
  obtain ⟨es, c, hm, hok⟩ := hc
  refine ⟨⟨W.heap.extract w.heap.size W.heap.size, W.drawn, es, c, hok⟩, ?_⟩
  have hh : W.heap = w.heap.setIfInBounds b (.map es c) ++ W.heap.extract w.heap.size W.heap.size := by
    apply Array.ext_getElem?
    intro i
    rw [Array.getElem?_append, Array.size_setIfInBounds]
    split
    · rename_i hi
      by_cases e : i = b
      · subst e
        rw [hm]; simp [hi]
      · rw [Array.getElem?_setIfInBounds_ne (by omega)]
        exact hg.block i hi (by simpa using e)
    · rename_i hi
      rw [Array.getElem?_extract]
      have := hg.size
      by_cases h2 : i < W.heap.size
      · rw [if_pos (by omega)]; congr 1; omega
      · rw [if_neg (by omega), Array.getElem?_eq_none (by omega)]
  have h1 := hg.os; have h2 := hg.tape; have h3 := hg.output
  obtain ⟨hp, tp, dr, os, ou⟩ := W
  simp only at *
  subst h1 h2 h3
  simp only [exb]
  rw [← hh]
theorem exb_exb {w W : World} {b : Nat} {x : Xb f} (hb : b < w.heap.size) (hc : CMap f W b) (hg : (exb w b x).grownBy W (some b)) : ∃ y : Xb f, W = exb w b y :=
  is_exb hc ((exb_grown w b x).trans hg) hb
section
variable {P : Program}
/-- Reads of other blocks and calls that write the map alone, in whatever order, ahead of a tail in its own order. -/
theorem wp_region_exb_tail {id : Nat} {Q : Exit → Act → World → Prop} {a : Act} {w : World} {b : Nat} {l : List Oper} (n : Nat) (hw : CMap f w b) (hm : P.follows .mixedOrders = true) (hB : Region.lexTailB .any l.toArray n = true)
    (h : wpQuiet P l.toArray (fun W => ∃ x : Xb f, W = exb w b x) (fun a' => ∀ x : Xb f, wpList P l.toArray Q (l.drop n) a' (exb w b x)) (l.take n) a) : (Code.region id l.toArray true).wp P Q a w := by
  simp only [Region.lexTailB, Bool.and_eq_true, decide_eq_true_eq] at hB
  obtain ⟨⟨⟨⟨hsel, hn⟩, hs⟩, hc⟩, hlex⟩ := hB
  have hn' : n < l.length := by simpa using hn
  have htl : (l.take n).length = n := by simp; omega
  have hdl : (l.drop n).length = l.toArray.size - n := by simp
  have inv0 : HeadInv .any l.toArray n (Array.replicate l.toArray.size false) :=
    ⟨by simp, fun j oj _ hl => (by rw [getD_replicate_false] at hl; cases hl), fun t _ ht => getD_in (by simpa using ht) (getD_replicate_false _ _)⟩
  have H := wpHead_lex (md := .any) (g := l.toArray.size - n) hsel hs hc hn (l.take n) 0 _ a (fun j hj => by
    have hj' : j < n := by rw [htl] at hj; exact hj
    simp [hj']) (by simpa using htl) inv0 (by rw [htl]; exact hlex) h
  refine wp_region_any hm ?_
  have h0 : ∃ x : Xb f, w.drew = exb w b x := is_exb (w := w) (W := w.drew) (by obtain ⟨es, c, h1, h2⟩ := hw; exact ⟨es, c, h1, h2⟩) ⟨rfl, rfl, rfl, Nat.le_refl _, fun _ _ _ => rfl⟩ hw.lt
  have := wpAny_of_wpHead (Q' := Q) (g := l.toArray.size - n) (fun listed a' w' hw' hL => by
    obtain ⟨x, rfl⟩ := hw'
    have := wpAny_of_seq (md := .any) (Q' := Q) (l.drop n) n listed a' (exb w b x) (fun j => by simp [List.getElem?_drop]) (by rw [hdl]; exact hL.1) (hL.2 x)
    rwa [hdl] at this) _ _ _ _ h0 H
  rw [htl, show n + (l.toArray.size - n) = l.toArray.size by omega] at this
  exact this
/-- a callee's contract, met at such a world -/
theorem calls_exb {g : FuncId} {args : Array Value} {w : World} {b : Nat} {v : Value} {x : Xb f} (hb : b < w.heap.size)
    (h : CMap f (exb w b x) b → Calls P g args (exb w b x) fun e w' => e = .returned v ∧ CMap f w' b ∧ (exb w b x).grownBy w' (some b)) : Calls P g args (exb w b x) fun e w'' => e = .returned v ∧ ∃ y : Xb f, w'' = exb w b y :=
  (h (exb_cmap w b x hb)).mono fun _ _ ⟨he, hc, hg⟩ => ⟨he, exb_exb hb hc hg⟩
end
end Go.Proofs.YthilkphnjffnhaaGreat
