/- A world that has been added to: new blocks behind the old ones, some draws; and a law for regions that draw their order: operations that read, or call what only adds blocks, ahead of a tail whose order is forced. -/
import Derived.StillTail
import Derived.Deep.Quiet
import Derived.Deep.QuietTactic
import Derived.Test.YthilkphnjffnhaaGreatBase
set_option linter.unusedSimpArgs false
set_option linter.unusedVariables false
namespace Go
open Go.RowKit

/-- what has been added: blocks, and the draws in all -/
structure Xt where
  o : Array Obj
  n : Nat
instance : Inhabited Xt := ⟨⟨#[], 0⟩⟩

/-- w with the blocks x.1 behind its own, and x.2 draws in all -/
def World.ext (w : World) (x : Xt) : World := { w with heap := w.heap ++ x.1, drawn := x.2 }

section
variable (w : World) (x : Xt)
theorem World.ext_get {k : Nat} (h : k < w.heap.size) : (w.ext x).heap[k]? = w.heap[k]? := by
  simp only [World.ext]; rw [Array.getElem?_append]; simp [h]
@[go_sem] theorem World.ext_size : (w.ext x).heap.size = w.heap.size + x.1.size := by simp [World.ext]
@[go_sem] theorem World.ext_cell {a : Addr} (h : a.block < w.heap.size) : (w.ext x).cell? a = w.cell? a := World.cell?_of_block (w := w) (w.ext_get x h)
@[go_sem] theorem World.ext_frozen {a : Addr} (h : a.block < w.heap.size) : (w.ext x).frozen? a = w.frozen? a := World.frozen?_of_block (w := w) (w.ext_get x h)
@[go_sem] theorem World.ext_drew : (w.ext x).drew = w.ext ⟨x.1, x.2 + 1⟩ := rfl
theorem World.ext_ext (y : Xt) : (w.ext x).ext y = w.ext ⟨x.1 ++ y.1, y.2⟩ := by simp [World.ext, Array.append_assoc]
theorem below_ext : Below w.heap.size w (w.ext x) := ⟨rfl, rfl, rfl, by simp [World.ext], fun k hk => w.ext_get x hk⟩
theorem ext_self : w.ext ⟨#[], w.drawn⟩ = w := by simp [World.ext]
theorem drew_ext : w.drew = w.ext ⟨#[], w.drawn + 1⟩ := by
  show ({ w with drawn := w.drawn + 1 } : World) = _
  unfold World.ext
  rw [Array.append_empty]
end

theorem below_is_ext {w w' : World} (h : Below w.heap.size w w') : ∃ x, w' = w.ext x := by
  refine ⟨⟨w'.heap.extract w.heap.size w'.heap.size, w'.drawn⟩, ?_⟩
  have hh : w'.heap = w.heap ++ w'.heap.extract w.heap.size w'.heap.size := by
    apply Array.ext_getElem?
    intro i
    rw [Array.getElem?_append]
    split
    · rename_i hi; rw [h.block i hi]
    · rename_i hi
      rw [Array.getElem?_extract]
      have := h.size
      by_cases h2 : i < w'.heap.size
      · rw [if_pos (by omega)]; congr 1; omega
      · rw [if_neg (by omega), Array.getElem?_eq_none (by omega)]
  have h1 := h.os; have h2 := h.tape; have h3 := h.output
  obtain ⟨hp, tp, dr, os, ou⟩ := w'
  simp only at *
  subst h1 h2 h3
  simp only [World.ext]
  rw [← hh]

section
variable {P : Program} {ops : Array Oper} {md : Region.Mode} {C : World → Prop}

/-- Whatever order is picked among the operations ahead of number n. -/
def wpHead (P : Program) (md : Region.Mode) (ops : Array Oper) (C : World → Prop) (n : Nat) (L : Array Bool → Act → Prop) : Nat → Array Bool → Act → Prop
  | 0, listed, a => L listed a
  | f + 1, listed, a => Region.ready md ops listed ≠ [] ∧ ∀ i ∈ Region.ready md ops listed, i < n ∧ qOp P ops C i (wpHead P md ops C n L f (listed.setIfInBounds i true)) a

theorem wpAny_of_wpHead {n g : Nat} {L : Array Bool → Act → Prop} {Q' : Exit → Act → World → Prop} (hL : ∀ listed a w, C w → L listed a → wpAny P md ops Q' g listed a w) :
    ∀ (f : Nat) (listed : Array Bool) (a : Act) (w : World), C w → wpHead P md ops C n L f listed a → wpAny P md ops Q' (f + g) listed a w
  | 0, listed, a, w, hw, h => by rw [Nat.zero_add]; exact hL _ _ _ hw h
  | f + 1, listed, a, w, hw, h => by
    rw [show f + 1 + g = (f + g) + 1 by omega]
    exact ⟨fun h0 => absurd h0 h.1, fun i hi => wpOp_of_qOp hw (fun a' w' hw' h' => wpAny_of_wpHead hL f _ a' w' hw' h') (h.2 i hi).2⟩

theorem wpHead_first {n i : Nat} {oi : Oper} {v : Value} {L : Array Bool → Act → Prop} (hi : ops[i]? = some oi) (hsel : ∀ (j : Nat) (o : Oper) cs b, ops[j]? = some o → o.op ≠ .select cs b)
    (hs : Region.sinkB md ops n = true) (hc : Region.chainB md ops n = true) (hn : n < ops.size) (hin : i < n) (hdone : ∀ listed a, L listed a → ∀ j ∈ Region.ready md ops listed, n ≤ j) :
    ∀ (f : Nat) (listed : Array Bool) (a : Act), HeadInv md ops n listed →
      (∀ j oj, ops[j]? = some oj → j ≠ i → listed.getD j true = false → (∀ e ∈ oj.after, Region.binds md e = true → e.on ≠ i) → oi.apart ops oj = true) →
      i ∈ Region.ready md ops listed → YieldsIn P ops C oi v a →
      wpHead P md ops C n L f (listed.setIfInBounds i true) (a.put oi.dst v) → wpHead P md ops C n L (f + 1) listed a := by
  intro f
  induction f with
  | zero =>
    intro listed a inv _ hr hy H
    have hun := (mem_ready.1 hr).1
    refine ⟨fun h => by simp [h] at hr, fun j hj => ?_⟩
    have hjn : j < n := Nat.lt_of_not_le fun h => tail_waits hs hc hn inv _ i rfl hin hun j h hj
    refine ⟨hjn, ?_⟩
    by_cases hji : j = i
    · subst hji; exact hy.qOp hi H
    · have := hdone _ _ H j (ready_mono hj hji); omega
  | succ f ih =>
    intro listed a inv hfree hr hy H
    have hun := (mem_ready.1 hr).1
    refine ⟨fun h => by simp [h] at hr, fun j hj => ?_⟩
    have hjn : j < n := Nat.lt_of_not_le fun h => tail_waits hs hc hn inv _ i rfl hin hun j h hj
    refine ⟨hjn, ?_⟩
    by_cases hji : j = i
    · subst hji; exact hy.qOp hi H
    · have h1 := (H.2 j (ready_mono hj hji)).2
      obtain ⟨hjun, oj, hoj, hall⟩ := mem_ready.1 hj
      have hnot : ∀ e ∈ oj.after, Region.binds md e = true → e.on ≠ i := fun e he hb heq => by
        have h2 := hall e he hb
        rw [heq, getD_both hun] at h2
        cases h2
      have h2 := qOp_put hoj (hfree j oj hoj hji hjun hnot) (fun cs b => hsel i oi cs b hi) (fun cs b => hsel j oj cs b hoj) hy h1
      refine qOp_mono (fun a' h3 => ih (listed.setIfInBounds j true) a' (inv.set hj hjn) (fun k ok hk hki hu hno => hfree k ok hk hki ?_ hno) (ready_mono hr (Ne.symm hji)) h3.1 ?_) h2
      · by_cases hjk : j = k
        · subst hjk; exact hjun
        · rwa [getD_set_ne true hjk] at hu
      · rw [Array.setIfInBounds_comm _ _ hji]; exact h3.2

theorem wpHead_lex {n g : Nat} {Lq : Act → Prop} (hsel : Region.noSelect ops = true) (hs : Region.sinkB md ops n = true) (hc : Region.chainB md ops n = true) (hn : n < ops.size) :
    ∀ (l : List Oper) (k : Nat) (listed : Array Bool) (a : Act), (∀ j, j < l.length → l[j]? = ops[k + j]?) → k + l.length = n → HeadInv md ops n listed →
    Region.lexHead md ops g l.length k listed = true → wpQuiet P ops C Lq l a → wpHead P md ops C n (fun listed' a' => Region.seqB md ops g n listed' = true ∧ Lq a') l.length listed a
  | [], k, listed, a, _, hk, _, hB, h => by
    have : k = n := by simpa using hk
    subst this
    exact ⟨by simpa [Region.lexHead] using hB, h⟩
  | o :: l, k, listed, a, hl, hk, inv, hB, h => by
    have h0 : ops[k]? = some o := by simpa using (hl 0 (by simp)).symm
    simp only [List.length_cons, Region.lexHead, Bool.and_eq_true] at hB
    obtain ⟨⟨hr, hf⟩, hB'⟩ := hB
    have hkn : k < n := by simp only [List.length_cons] at hk; omega
    have hr' : k ∈ Region.ready md ops listed := by simpa using hr
    have hst : qOp P ops C k (wpQuiet P ops C Lq l) a := by unfold qOp; simp only [h0]; exact h
    obtain ⟨v, hy, hK⟩ := yieldsIn_of_qOp h0 hst
    exact wpHead_first h0 (Region.noSelect_spec hsel) hs hc hn hkn (fun listed' a' hL => seqB_ready hL.1) l.length listed a inv (Region.free_spec h0 hf) hr' hy
      (wpHead_lex hsel hs hc hn l (k + 1) _ _ (fun j hj => by have := hl (j + 1) (by simp; omega); simpa [Nat.add_assoc, Nat.add_comm 1 j] using this) (by simp only [List.length_cons] at hk; omega) (inv.set hr' hkn) hB' hK)

/-- Reads and calls that only add, in whatever order, ahead of a tail in its own order. -/
theorem wp_region_ext_tail {id : Nat} {Q : Exit → Act → World → Prop} {a : Act} {w : World} {l : List Oper} (n : Nat) (hm : P.follows .mixedOrders = true) (hB : Region.lexTailB .any l.toArray n = true)
    (h : wpQuiet P l.toArray (fun W => ∃ x, W = w.ext x) (fun a' => ∀ x, wpList P l.toArray Q (l.drop n) a' (w.ext x)) (l.take n) a) : (Code.region id l.toArray true).wp P Q a w := by
  simp only [Region.lexTailB, Bool.and_eq_true, decide_eq_true_eq] at hB
  obtain ⟨⟨⟨⟨hsel, hn⟩, hs⟩, hc⟩, hlex⟩ := hB
  have hn' : n < l.length := by simpa using hn
  have htl : (l.take n).length = n := by simp; omega
  have hdl : (l.drop n).length = l.toArray.size - n := by simp
  have inv0 : HeadInv .any l.toArray n (Array.replicate l.toArray.size false) :=
    ⟨by simp, fun j oj _ hl => (by rw [getD_replicate_false] at hl; cases hl), fun t _ ht => getD_in (by simpa using ht) (getD_replicate_false _ _)⟩
  have H := wpHead_lex (md := .any) (g := l.toArray.size - n) hsel hs hc hn (l.take n) 0 _ a (fun j hj => by
    have hj' : j < n := by rw [htl] at hj; exact hj
    simp [hj']) (by simpa using htl) inv0 (by rw [htl]; exact hlex) h
  refine wp_region_any hm ?_
  have := wpAny_of_wpHead (Q' := Q) (g := l.toArray.size - n) (fun listed a' w' hw' hL => by
    obtain ⟨x, rfl⟩ := hw'
    have := wpAny_of_seq (md := .any) (Q' := Q) (l.drop n) n listed a' (w.ext x) (fun j => by simp [List.getElem?_drop]) (by rw [hdl]; exact hL.1) (hL.2 x)
    rwa [hdl] at this) _ _ _ _ ⟨⟨#[], w.drawn + 1⟩, drew_ext w⟩ H
  rw [htl, show n + (l.toArray.size - n) = l.toArray.size by omega] at this
  exact this

/-- Reads and calls that only add, in whatever order. -/
theorem wp_region_ext {id : Nat} {Q : Exit → Act → World → Prop} {a : Act} {w : World} {l : List Oper} (hm : P.follows .mixedOrders = true) (hB : Region.lexB .any l.toArray = true)
    (h : wpQuiet P l.toArray (fun W => ∃ x, W = w.ext x) (fun a' => ∀ x, Q .normal a' (w.ext x)) l a) : (Code.region id l.toArray true).wp P Q a w := by
  refine wp_region_quiet (C := fun W => ∃ x, W = w.ext x) hm hB ⟨⟨#[], w.drawn + 1⟩, drew_ext w⟩ ?_
  have e : (fun a' => ∀ x, Q .normal a' (w.ext x)) = fun a' => ∀ w', (∃ x, w' = w.ext x) → Q .normal a' w' := by
    funext a'
    apply propext
    exact ⟨fun h w' ⟨x, e⟩ => e ▸ h x, fun h x => h _ ⟨x, rfl⟩⟩
  rw [← e]
  simpa using h

/-- a callee's contract, met at a world that has been added to -/
theorem calls_ext {f : FuncId} {args : Array Value} {w : World} {v : Value} {x : Xt}
    (h : Calls P f args (w.ext x) fun e w' => e = .returned v ∧ Below (w.ext x).heap.size (w.ext x) w') : Calls P f args (w.ext x) fun e w'' => e = .returned v ∧ ∃ y, w'' = w.ext y :=
  h.mono fun _ w' ⟨he, hb⟩ => ⟨he, by obtain ⟨y, rfl⟩ := below_is_ext hb; exact ⟨_, World.ext_ext w x y⟩⟩
theorem calls_ext_same {f : FuncId} {args : Array Value} {w : World} {v : Value} {x : Xt}
    (h : Calls P f args (w.ext x) fun e w' => e = .returned v ∧ w.ext x = w') : Calls P f args (w.ext x) fun e w'' => e = .returned v ∧ ∃ y, w'' = w.ext y :=
  h.mono fun _ w' ⟨he, hb⟩ => ⟨he, x, hb.symm⟩
end
end Go
