/- Words for memory used by the walks: a slice that reads as a list, nil let in; and how it is kept. -/
import Derived.WalkKit
import Derived.WalkSpells
import Derived.WalkLawsBesides
import Derived.Lib.Hide
import Derived.Shelf.Abstract
import Derived.Deep.LoopGhost
set_option linter.unusedSimpArgs false
set_option linter.unusedVariables false
namespace Go.Proofs.YthilkphnjffnhaaGreat
open Go.RowKit Go.Shelf

/-- The slice with address A holds the elements xs, each spread over k cells. -/
structure RdS {α : Type} (enc : α → List Value) (k : Nat) (w : World) (A : Option Addr) (xs : List α) : Prop where
  len : xs.length ≤ 140737488355328
  cells : ∀ i x, xs[i]? = some x → ∃ b off, A = some ⟨b, off, none⟩ ∧ b < w.heap.size ∧ ∀ j u, (enc x)[j]? = some u → w.cell? ⟨b, off + i * k + j, none⟩ = some u

section
variable {α : Type} {enc : α → List Value} {k : Nat} {w w' : World} {A : Option Addr} {xs : List α}
theorem RdS.at_ (h : RdS enc k w A xs) (i : Nat) (hi : i < xs.length) : ∃ b off, A = some ⟨b, off, none⟩ ∧ b < w.heap.size ∧ ∀ j u, (enc xs[i])[j]? = some u → w.cell? ⟨b, off + i * k + j, none⟩ = some u :=
  h.cells i xs[i] (List.getElem?_eq_getElem hi)
theorem RdS.keep (h : RdS enc k w A xs) (hs : w.heap.size ≤ w'.heap.size) (hb : ∀ b, b < w.heap.size → w'.heap[b]? = w.heap[b]?) : RdS enc k w' A xs :=
  ⟨h.len, fun i x hx => by
    obtain ⟨b, off, rfl, hlt, hc⟩ := h.cells i x hx
    exact ⟨b, off, rfl, by omega, fun j u hu => (World.cell?_of_block (hb b hlt)).trans (hc j u hu)⟩⟩
theorem RdS.below (h : RdS enc k w A xs) (hb : Below w.heap.size w w') : RdS enc k w' A xs := h.keep hb.size hb.block
theorem RdS.nil : RdS enc k w A [] := ⟨by simp, fun i x hx => by simp at hx⟩
end

def encI (x : Int) : List Value := [.int .i64 x]
/-- a bound: I, J, Most -/
structure Bd where
  (i j m : Int)
deriving DecidableEq
def Bd.enc (b : Bd) : List Value := [.int .i64 b.i, .int .i64 b.j, .int .i64 b.m]
def Bd.val (b : Bd) : Value := .agg #[.int .i64 b.i, .int .i64 b.j, .int .i64 b.m]

/-- a relation: I, J, Set -/
structure Rl where
  (i j s : Int)
deriving DecidableEq
def Rl.enc (b : Rl) : List Value := [.int .i64 b.i, .int .i64 b.j, .int .i64 b.s]
def Rl.val (b : Rl) : Value := .agg #[.int .i64 b.i, .int .i64 b.j, .int .i64 b.s]
/-- a span: From, To -/
structure Sp where
  (a b : Int)
deriving DecidableEq
def Sp.enc (s : Sp) : List Value := [.int .i64 s.a, .int .i64 s.b]
def Sp.val (s : Sp) : Value := .agg #[.int .i64 s.a, .int .i64 s.b]
/-- a choice: I, J, L; where L lies, and what it holds -/
structure Ch where
  (i j : Int)
  A : Option Addr
  c : Nat
  l : List Sp
def Ch.enc (s : Ch) : List Value := [.int .i64 s.i, .int .i64 s.j, .slice s.A s.l.length s.c]
def Ch.val (s : Ch) : Value := .agg #[.int .i64 s.i, .int .i64 s.j, .slice s.A s.l.length s.c]
/-- a row of whole numbers: where it lies, and what it holds -/
structure Rw where
  A : Option Addr
  c : Nat
  l : List Int
def Rw.enc (s : Rw) : List Value := [.slice s.A s.l.length s.c]
def Rw.val (s : Rw) : Value := .slice s.A s.l.length s.c
def valI (x : Int) : Value := .int .i64 x
theorem ret_int {k : IntKind} {a b : Int} (h : a = b) : Ending.returned (.int k a) = .returned (.int k b) := by rw [h]
theorem ret_bool {a b : Bool} (h : a = b) : Ending.returned (.bool a) = .returned (.bool b) := by rw [h]

/-- the place of the first element that meets p, or -1 -/
def idxOf {α : Type} (p : α → Bool) (xs : List α) : Int := match xs.findIdx? p with | some i => i | none => -1
theorem idxOf_hit {α : Type} {p : α → Bool} {xs : List α} {k : Nat} (hk : k < xs.length) (h : p xs[k] = true) (hno : ∀ j (hj : j < xs.length), j < k → p xs[j] = false) : idxOf p xs = k := by
  unfold idxOf
  have : xs.findIdx? p = some k := by
    rw [List.findIdx?_eq_some_iff_getElem]
    exact ⟨hk, h, fun j hj => by simpa using hno j (by omega) hj⟩
  rw [this]
theorem idxOf_miss {α : Type} {p : α → Bool} {xs : List α} (hno : ∀ j (hj : j < xs.length), p xs[j] = false) : idxOf p xs = -1 := by
  unfold idxOf
  have : xs.findIdx? p = none := by
    rw [List.findIdx?_eq_none_iff]
    intro x hx
    obtain ⟨j, hj, rfl⟩ := List.getElem_of_mem hx
    exact hno j hj
  rw [this]
theorem idxOf_any {α : Type} (p : α → Bool) (xs : List α) : decide (0 ≤ idxOf p xs) = xs.any p := by
  unfold idxOf
  cases h : xs.findIdx? p with
  | some i =>
    have := (List.findIdx?_eq_some_iff_getElem.1 h)
    obtain ⟨hi, hp, _⟩ := this
    have : xs.any p = true := List.any_eq_true.2 ⟨_, List.getElem_mem hi, hp⟩
    simp [this]
  | none =>
    have : xs.any p = false := by
      rw [List.findIdx?_eq_none_iff] at h
      rw [List.any_eq_false]; intro x hx; simpa using h x hx
    simp [this]

/-- a predicate handed on as a function value: it answers p x on every element of xs, in every later world -/
def PredOn (P : Program) (g : Nat) (lb : Array Value) {α : Type} (val : α → Value) (p : α → Bool) (xs : List α) (w : World) : Prop :=
  ∀ x ∈ xs, ∀ W, Below w.heap.size w W → Calls P g (#[val x] ++ lb) W fun e W' => e = .returned (.bool (p x)) ∧ Below W.heap.size W W'

end Go.Proofs.YthilkphnjffnhaaGreat
