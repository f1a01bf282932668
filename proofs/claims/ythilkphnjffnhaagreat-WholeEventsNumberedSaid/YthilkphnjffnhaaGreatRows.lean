/-
  No cell of these rows narrows 'for every input' (looked for: loops, veiled, ifaces, maps, wideKeys, modest, calm, conditions, laid).
  DERIVED. THE GIVEN ROWS OF THIS SEAT. 11 by the template 'for every input the law returns true; each argument reads behind the call as it read before'; 0 by the template 'total and deterministic' (their statements: YthilkphnjffnhaaGreatTotals.lean).
  GIVEN WITH THE SEED: the statements are not yours to turn. If you find one false, say at which input.
  Laid BY PROGRAM, IN A SANDBOX (cutbox-rows.mjs): the forced cells as the released guide's own fill.sh prints them over the translation 975a5665be5ff9b6… (all of the seat's roots in one cut). By AI agents, Wed Nov 11 2026. No macro, syntax, notation, axiom, sorry.
-/
import Derived.Test.YthilkphnjffnhaaGreatChecked
import GoSem.Claim
import GoSem.ClaimJoined
import GoSem.ClaimMapViews
import Derived.JoinedTies
import Derived.KernelRfl
namespace Go.Proofs.YthilkphnjffnhaaGreat
/- THE CELL 'sum', in the pinned program and in every row, IS THE sha256 OF THE DUMP (.gsa) THAT YthilkphnjffnhaaGreatProg.lean LOADS. Nothing in Lean hashes anything: it is a label: what it is worth is what the hold of that sum in a sandbox is worth. -/
noncomputable def Tryz.pinned : Pinned := { name := "ythilkphnjffnhaagreat", sum := "975a5665be5ff9b63800746d74a32107aac6c35a7bba6cdcb8156582c791a0b2", checked := Tryz.checked }
namespace Rows
def none {H : Type} : Left H := { results := [], args := [] }

/-- 'civiltimetop.WholeEventsNumbered': WHATEVER THE INPUT: true; the input reads as it did. -/
def wholeEventsNumberedSpec : ChangeSpec := { name := "wholeEventsNumbered", fn := fun _ => fun
  | [d1, d2, d3] => { results := [.lit (.bool true)], args := [d1, d2, d3] }
  | _ => none }
def wholeEventsNumberedRow : OpenClaim := { program := "ythilkphnjffnhaagreat", sum := "975a5665be5ff9b63800746d74a32107aac6c35a7bba6cdcb8156582c791a0b2", func := "civiltime/civiltimetop.WholeEventsNumbered", spec := "wholeEventsNumbered", unfollowed := true, recurses := true, plainKeys := false, apart := false }
def WholeEventsNumberedSaid : Prop := wholeEventsNumberedRow.holds Tryz.pinned (OpenSpec.ofChange wholeEventsNumberedSpec)

/-- ITS FALSE NEIGHBOUR: 'it returns false'. Refute it at one input. -/
def wholeEventsNumberedWrong : ChangeSpec := { name := "wholeEventsNumbered", fn := fun _ => fun
  | [d1, d2, d3] => { results := [.lit (.bool false)], args := [d1, d2, d3] }
  | _ => none }
def WholeEventsNumberedWrongFalsely : Prop := wholeEventsNumberedRow.holds Tryz.pinned (OpenSpec.ofChange wholeEventsNumberedWrong)

/-- 'civiltimetop.WholeTimeReversed': WHATEVER THE INPUT: true; the input reads as it did. -/
def wholeTimeReversedSpec : ChangeSpec := { name := "wholeTimeReversed", fn := fun _ => fun
  | [d1, d2, d3, d4] => { results := [.lit (.bool true)], args := [d1, d2, d3, d4] }
  | _ => none }
def wholeTimeReversedRow : OpenClaim := { program := "ythilkphnjffnhaagreat", sum := "975a5665be5ff9b63800746d74a32107aac6c35a7bba6cdcb8156582c791a0b2", func := "civiltime/civiltimetop.WholeTimeReversed", spec := "wholeTimeReversed", unfollowed := true, recurses := true, plainKeys := false, apart := false }
def WholeTimeReversedSaid : Prop := wholeTimeReversedRow.holds Tryz.pinned (OpenSpec.ofChange wholeTimeReversedSpec)

/-- ITS FALSE NEIGHBOUR: 'it returns false'. Refute it at one input. -/
def wholeTimeReversedWrong : ChangeSpec := { name := "wholeTimeReversed", fn := fun _ => fun
  | [d1, d2, d3, d4] => { results := [.lit (.bool false)], args := [d1, d2, d3, d4] }
  | _ => none }
def WholeTimeReversedWrongFalsely : Prop := wholeTimeReversedRow.holds Tryz.pinned (OpenSpec.ofChange wholeTimeReversedWrong)

/-- 'civiltimetop.WholeImplied': WHATEVER THE INPUT: true; the input reads as it did. -/
def wholeImpliedSpec : ChangeSpec := { name := "wholeImplied", fn := fun _ => fun
  | [d1, d2, d3, d4, d5] => { results := [.lit (.bool true)], args := [d1, d2, d3, d4, d5] }
  | _ => none }
def wholeImpliedRow : OpenClaim := { program := "ythilkphnjffnhaagreat", sum := "975a5665be5ff9b63800746d74a32107aac6c35a7bba6cdcb8156582c791a0b2", func := "civiltime/civiltimetop.WholeImplied", spec := "wholeImplied", unfollowed := true, recurses := true, plainKeys := false, apart := false }
def WholeImpliedSaid : Prop := wholeImpliedRow.holds Tryz.pinned (OpenSpec.ofChange wholeImpliedSpec)

/-- ITS FALSE NEIGHBOUR: 'it returns false'. Refute it at one input. -/
def wholeImpliedWrong : ChangeSpec := { name := "wholeImplied", fn := fun _ => fun
  | [d1, d2, d3, d4, d5] => { results := [.lit (.bool false)], args := [d1, d2, d3, d4, d5] }
  | _ => none }
def WholeImpliedWrongFalsely : Prop := wholeImpliedRow.holds Tryz.pinned (OpenSpec.ofChange wholeImpliedWrong)

/-- 'civiltimetop.WholeInverted': WHATEVER THE INPUT: true; the input reads as it did. -/
def wholeInvertedSpec : ChangeSpec := { name := "wholeInverted", fn := fun _ => fun
  | [d1, d2, d3, d4, d5] => { results := [.lit (.bool true)], args := [d1, d2, d3, d4, d5] }
  | _ => none }
def wholeInvertedRow : OpenClaim := { program := "ythilkphnjffnhaagreat", sum := "975a5665be5ff9b63800746d74a32107aac6c35a7bba6cdcb8156582c791a0b2", func := "civiltime/civiltimetop.WholeInverted", spec := "wholeInverted", unfollowed := true, recurses := true, plainKeys := false, apart := false }
def WholeInvertedSaid : Prop := wholeInvertedRow.holds Tryz.pinned (OpenSpec.ofChange wholeInvertedSpec)

/-- ITS FALSE NEIGHBOUR: 'it returns false'. Refute it at one input. -/
def wholeInvertedWrong : ChangeSpec := { name := "wholeInverted", fn := fun _ => fun
  | [d1, d2, d3, d4, d5] => { results := [.lit (.bool false)], args := [d1, d2, d3, d4, d5] }
  | _ => none }
def WholeInvertedWrongFalsely : Prop := wholeInvertedRow.holds Tryz.pinned (OpenSpec.ofChange wholeInvertedWrong)

/-- 'civiltimetop.WholeIntervalsNumbered': WHATEVER THE INPUT: true; the input reads as it did. -/
def wholeIntervalsNumberedSpec : ChangeSpec := { name := "wholeIntervalsNumbered", fn := fun _ => fun
  | [d1, d2, d3, d4, d5] => { results := [.lit (.bool true)], args := [d1, d2, d3, d4, d5] }
  | _ => none }
def wholeIntervalsNumberedRow : OpenClaim := { program := "ythilkphnjffnhaagreat", sum := "975a5665be5ff9b63800746d74a32107aac6c35a7bba6cdcb8156582c791a0b2", func := "civiltime/civiltimetop.WholeIntervalsNumbered", spec := "wholeIntervalsNumbered", unfollowed := true, recurses := true, plainKeys := false, apart := false }
def WholeIntervalsNumberedSaid : Prop := wholeIntervalsNumberedRow.holds Tryz.pinned (OpenSpec.ofChange wholeIntervalsNumberedSpec)

/-- ITS FALSE NEIGHBOUR: 'it returns false'. Refute it at one input. -/
def wholeIntervalsNumberedWrong : ChangeSpec := { name := "wholeIntervalsNumbered", fn := fun _ => fun
  | [d1, d2, d3, d4, d5] => { results := [.lit (.bool false)], args := [d1, d2, d3, d4, d5] }
  | _ => none }
def WholeIntervalsNumberedWrongFalsely : Prop := wholeIntervalsNumberedRow.holds Tryz.pinned (OpenSpec.ofChange wholeIntervalsNumberedWrong)

/-- 'civiltimetop.WholeSpansMoved': WHATEVER THE INPUT: true; the input reads as it did. -/
def wholeSpansMovedSpec : ChangeSpec := { name := "wholeSpansMoved", fn := fun _ => fun
  | [d1, d2, d3, d4, d5, d6] => { results := [.lit (.bool true)], args := [d1, d2, d3, d4, d5, d6] }
  | _ => none }
def wholeSpansMovedRow : OpenClaim := { program := "ythilkphnjffnhaagreat", sum := "975a5665be5ff9b63800746d74a32107aac6c35a7bba6cdcb8156582c791a0b2", func := "civiltime/civiltimetop.WholeSpansMoved", spec := "wholeSpansMoved", unfollowed := true, recurses := true, plainKeys := false, apart := false }
def WholeSpansMovedSaid : Prop := wholeSpansMovedRow.holds Tryz.pinned (OpenSpec.ofChange wholeSpansMovedSpec)

/-- ITS FALSE NEIGHBOUR: 'it returns false'. Refute it at one input. -/
def wholeSpansMovedWrong : ChangeSpec := { name := "wholeSpansMoved", fn := fun _ => fun
  | [d1, d2, d3, d4, d5, d6] => { results := [.lit (.bool false)], args := [d1, d2, d3, d4, d5, d6] }
  | _ => none }
def WholeSpansMovedWrongFalsely : Prop := wholeSpansMovedRow.holds Tryz.pinned (OpenSpec.ofChange wholeSpansMovedWrong)

/-- 'civiltimetop.WholeSpansMirrored': WHATEVER THE INPUT: true; the input reads as it did. -/
def wholeSpansMirroredSpec : ChangeSpec := { name := "wholeSpansMirrored", fn := fun _ => fun
  | [d1, d2, d3, d4, d5] => { results := [.lit (.bool true)], args := [d1, d2, d3, d4, d5] }
  | _ => none }
def wholeSpansMirroredRow : OpenClaim := { program := "ythilkphnjffnhaagreat", sum := "975a5665be5ff9b63800746d74a32107aac6c35a7bba6cdcb8156582c791a0b2", func := "civiltime/civiltimetop.WholeSpansMirrored", spec := "wholeSpansMirrored", unfollowed := true, recurses := true, plainKeys := false, apart := false }
def WholeSpansMirroredSaid : Prop := wholeSpansMirroredRow.holds Tryz.pinned (OpenSpec.ofChange wholeSpansMirroredSpec)

/-- ITS FALSE NEIGHBOUR: 'it returns false'. Refute it at one input. -/
def wholeSpansMirroredWrong : ChangeSpec := { name := "wholeSpansMirrored", fn := fun _ => fun
  | [d1, d2, d3, d4, d5] => { results := [.lit (.bool false)], args := [d1, d2, d3, d4, d5] }
  | _ => none }
def WholeSpansMirroredWrongFalsely : Prop := wholeSpansMirroredRow.holds Tryz.pinned (OpenSpec.ofChange wholeSpansMirroredWrong)

/-- 'civiltimetop.WholeChoicesNumbered': WHATEVER THE INPUT: true; the input reads as it did. -/
def wholeChoicesNumberedSpec : ChangeSpec := { name := "wholeChoicesNumbered", fn := fun _ => fun
  | [d1, d2, d3, d4] => { results := [.lit (.bool true)], args := [d1, d2, d3, d4] }
  | _ => none }
def wholeChoicesNumberedRow : OpenClaim := { program := "ythilkphnjffnhaagreat", sum := "975a5665be5ff9b63800746d74a32107aac6c35a7bba6cdcb8156582c791a0b2", func := "civiltime/civiltimetop.WholeChoicesNumbered", spec := "wholeChoicesNumbered", inPlace := ["internal/reflectlite.ValueOf", "internal/reflectlite.Swapper", "(internal/reflectlite.Value).Len"], unfollowed := true, recurses := true, plainKeys := false, apart := false }
def WholeChoicesNumberedSaid : Prop := wholeChoicesNumberedRow.holds Tryz.pinned (OpenSpec.ofChange wholeChoicesNumberedSpec)

/-- ITS FALSE NEIGHBOUR: 'it returns false'. Refute it at one input. -/
def wholeChoicesNumberedWrong : ChangeSpec := { name := "wholeChoicesNumbered", fn := fun _ => fun
  | [d1, d2, d3, d4] => { results := [.lit (.bool false)], args := [d1, d2, d3, d4] }
  | _ => none }
def WholeChoicesNumberedWrongFalsely : Prop := wholeChoicesNumberedRow.holds Tryz.pinned (OpenSpec.ofChange wholeChoicesNumberedWrong)

/-- 'civiltimetop.WholeChoicesReversed': WHATEVER THE INPUT: true; the input reads as it did. -/
def wholeChoicesReversedSpec : ChangeSpec := { name := "wholeChoicesReversed", fn := fun _ => fun
  | [d1, d2, d3] => { results := [.lit (.bool true)], args := [d1, d2, d3] }
  | _ => none }
def wholeChoicesReversedRow : OpenClaim := { program := "ythilkphnjffnhaagreat", sum := "975a5665be5ff9b63800746d74a32107aac6c35a7bba6cdcb8156582c791a0b2", func := "civiltime/civiltimetop.WholeChoicesReversed", spec := "wholeChoicesReversed", inPlace := ["internal/reflectlite.ValueOf", "internal/reflectlite.Swapper", "(internal/reflectlite.Value).Len"], unfollowed := true, recurses := true, plainKeys := false, apart := false }
def WholeChoicesReversedSaid : Prop := wholeChoicesReversedRow.holds Tryz.pinned (OpenSpec.ofChange wholeChoicesReversedSpec)

/-- ITS FALSE NEIGHBOUR: 'it returns false'. Refute it at one input. -/
def wholeChoicesReversedWrong : ChangeSpec := { name := "wholeChoicesReversed", fn := fun _ => fun
  | [d1, d2, d3] => { results := [.lit (.bool false)], args := [d1, d2, d3] }
  | _ => none }
def WholeChoicesReversedWrongFalsely : Prop := wholeChoicesReversedRow.holds Tryz.pinned (OpenSpec.ofChange wholeChoicesReversedWrong)

/-- 'civiltimetop.WholeChoicesSpelled': WHATEVER THE INPUT: true; the input reads as it did. -/
def wholeChoicesSpelledSpec : ChangeSpec := { name := "wholeChoicesSpelled", fn := fun _ => fun
  | [d1, d2, d3, d4] => { results := [.lit (.bool true)], args := [d1, d2, d3, d4] }
  | _ => none }
def wholeChoicesSpelledRow : OpenClaim := { program := "ythilkphnjffnhaagreat", sum := "975a5665be5ff9b63800746d74a32107aac6c35a7bba6cdcb8156582c791a0b2", func := "civiltime/civiltimetop.WholeChoicesSpelled", spec := "wholeChoicesSpelled", inPlace := ["internal/reflectlite.ValueOf", "internal/reflectlite.Swapper", "(internal/reflectlite.Value).Len"], unfollowed := true, recurses := true, plainKeys := false, apart := false }
def WholeChoicesSpelledSaid : Prop := wholeChoicesSpelledRow.holds Tryz.pinned (OpenSpec.ofChange wholeChoicesSpelledSpec)

/-- ITS FALSE NEIGHBOUR: 'it returns false'. Refute it at one input. -/
def wholeChoicesSpelledWrong : ChangeSpec := { name := "wholeChoicesSpelled", fn := fun _ => fun
  | [d1, d2, d3, d4] => { results := [.lit (.bool false)], args := [d1, d2, d3, d4] }
  | _ => none }
def WholeChoicesSpelledWrongFalsely : Prop := wholeChoicesSpelledRow.holds Tryz.pinned (OpenSpec.ofChange wholeChoicesSpelledWrong)

/-- 'civiltimetop.WholeTasksNamed': WHATEVER THE INPUT: true; the input reads as it did. -/
def wholeTasksNamedSpec : ChangeSpec := { name := "wholeTasksNamed", fn := fun _ => fun
  | [d1, d2, d3] => { results := [.lit (.bool true)], args := [d1, d2, d3] }
  | _ => none }
def wholeTasksNamedRow : OpenClaim := { program := "ythilkphnjffnhaagreat", sum := "975a5665be5ff9b63800746d74a32107aac6c35a7bba6cdcb8156582c791a0b2", func := "civiltime/civiltimetop.WholeTasksNamed", spec := "wholeTasksNamed", unfollowed := true, recurses := true, plainKeys := false, apart := false }
def WholeTasksNamedSaid : Prop := wholeTasksNamedRow.holds Tryz.pinned (OpenSpec.ofChange wholeTasksNamedSpec)

/-- ITS FALSE NEIGHBOUR: 'it returns false'. Refute it at one input. -/
def wholeTasksNamedWrong : ChangeSpec := { name := "wholeTasksNamed", fn := fun _ => fun
  | [d1, d2, d3] => { results := [.lit (.bool false)], args := [d1, d2, d3] }
  | _ => none }
def WholeTasksNamedWrongFalsely : Prop := wholeTasksNamedRow.holds Tryz.pinned (OpenSpec.ofChange wholeTasksNamedWrong)

/- THE SECOND FORM. 'bulk': how many values and letters a reading holds, each counted each time it is reached (what is shared counts as often as it is met; a slice's spare places count too). A statement '..UptoSaid' is the law's where the arguments, and the package variables that the reading takes, are together of bulk at most 1048576: NARROWER than '..Said'. Prove '..Said' where nothing that the law and all that it calls make is longer than what came in: it says more and counts as full. Else prove '..UptoSaid'. A law counts once. -/
mutual
def uptoBulk {H : Type} : DataW H → Nat
  | .lit (.string bytes) => bytes.length + 1
  | .lit _ => 1
  | .nil => 1
  | .ptr d => uptoBulk d + 1
  | .slice elems spare => uptoBulkAll elems + uptoBulkAll spare + 1
  | .agg parts => uptoBulkAll parts + 1
  | .iface _ d => uptoBulk d + 1
  | .map entries => uptoBulkEntries entries + 1
  | .held _ => 1
def uptoBulkAll {H : Type} : List (DataW H) → Nat
  | [] => 0
  | d :: r => uptoBulk d + uptoBulkAll r
def uptoBulkEntries {H : Type} : List (Lit × DataW H) → Nat
  | [] => 0
  | x :: r => uptoBulkEntry x + uptoBulkEntries r
def uptoBulkEntry {H : Type} : Lit × DataW H → Nat
  | (.string bytes, d) => bytes.length + uptoBulk d + 1
  | (_, d) => uptoBulk d + 1
 end
def uptoSmall : (H : Type) → List (DataW H) → Bool := fun _ ds => decide (uptoBulkAll ds ≤ 1048576)
def OpenSpec.upto (s : _root_.Go.ChangeSpec) : _root_.Go.OpenSpec := { _root_.Go.OpenSpec.ofChange s with cond := some uptoSmall }

/-- 'civiltimetop.WholeEventsNumbered', WHERE WHAT IT READS IS OF BULK AT MOST 1048576: true; the input reads as it did. -/
def wholeEventsNumberedUptoRow : OpenClaim := { program := "ythilkphnjffnhaagreat", sum := "975a5665be5ff9b63800746d74a32107aac6c35a7bba6cdcb8156582c791a0b2", func := "civiltime/civiltimetop.WholeEventsNumbered", spec := "wholeEventsNumbered", unfollowed := true, recurses := true, plainKeys := false, apart := false, narrowed := true }
def WholeEventsNumberedUptoSaid : Prop := wholeEventsNumberedUptoRow.holds Tryz.pinned (OpenSpec.upto wholeEventsNumberedSpec)

/-- 'civiltimetop.WholeTimeReversed', WHERE WHAT IT READS IS OF BULK AT MOST 1048576: true; the input reads as it did. -/
def wholeTimeReversedUptoRow : OpenClaim := { program := "ythilkphnjffnhaagreat", sum := "975a5665be5ff9b63800746d74a32107aac6c35a7bba6cdcb8156582c791a0b2", func := "civiltime/civiltimetop.WholeTimeReversed", spec := "wholeTimeReversed", unfollowed := true, recurses := true, plainKeys := false, apart := false, narrowed := true }
def WholeTimeReversedUptoSaid : Prop := wholeTimeReversedUptoRow.holds Tryz.pinned (OpenSpec.upto wholeTimeReversedSpec)

/-- 'civiltimetop.WholeImplied', WHERE WHAT IT READS IS OF BULK AT MOST 1048576: true; the input reads as it did. -/
def wholeImpliedUptoRow : OpenClaim := { program := "ythilkphnjffnhaagreat", sum := "975a5665be5ff9b63800746d74a32107aac6c35a7bba6cdcb8156582c791a0b2", func := "civiltime/civiltimetop.WholeImplied", spec := "wholeImplied", unfollowed := true, recurses := true, plainKeys := false, apart := false, narrowed := true }
def WholeImpliedUptoSaid : Prop := wholeImpliedUptoRow.holds Tryz.pinned (OpenSpec.upto wholeImpliedSpec)

/-- 'civiltimetop.WholeInverted', WHERE WHAT IT READS IS OF BULK AT MOST 1048576: true; the input reads as it did. -/
def wholeInvertedUptoRow : OpenClaim := { program := "ythilkphnjffnhaagreat", sum := "975a5665be5ff9b63800746d74a32107aac6c35a7bba6cdcb8156582c791a0b2", func := "civiltime/civiltimetop.WholeInverted", spec := "wholeInverted", unfollowed := true, recurses := true, plainKeys := false, apart := false, narrowed := true }
def WholeInvertedUptoSaid : Prop := wholeInvertedUptoRow.holds Tryz.pinned (OpenSpec.upto wholeInvertedSpec)

/-- 'civiltimetop.WholeIntervalsNumbered', WHERE WHAT IT READS IS OF BULK AT MOST 1048576: true; the input reads as it did. -/
def wholeIntervalsNumberedUptoRow : OpenClaim := { program := "ythilkphnjffnhaagreat", sum := "975a5665be5ff9b63800746d74a32107aac6c35a7bba6cdcb8156582c791a0b2", func := "civiltime/civiltimetop.WholeIntervalsNumbered", spec := "wholeIntervalsNumbered", unfollowed := true, recurses := true, plainKeys := false, apart := false, narrowed := true }
def WholeIntervalsNumberedUptoSaid : Prop := wholeIntervalsNumberedUptoRow.holds Tryz.pinned (OpenSpec.upto wholeIntervalsNumberedSpec)

/-- 'civiltimetop.WholeSpansMoved', WHERE WHAT IT READS IS OF BULK AT MOST 1048576: true; the input reads as it did. -/
def wholeSpansMovedUptoRow : OpenClaim := { program := "ythilkphnjffnhaagreat", sum := "975a5665be5ff9b63800746d74a32107aac6c35a7bba6cdcb8156582c791a0b2", func := "civiltime/civiltimetop.WholeSpansMoved", spec := "wholeSpansMoved", unfollowed := true, recurses := true, plainKeys := false, apart := false, narrowed := true }
def WholeSpansMovedUptoSaid : Prop := wholeSpansMovedUptoRow.holds Tryz.pinned (OpenSpec.upto wholeSpansMovedSpec)

/-- 'civiltimetop.WholeSpansMirrored', WHERE WHAT IT READS IS OF BULK AT MOST 1048576: true; the input reads as it did. -/
def wholeSpansMirroredUptoRow : OpenClaim := { program := "ythilkphnjffnhaagreat", sum := "975a5665be5ff9b63800746d74a32107aac6c35a7bba6cdcb8156582c791a0b2", func := "civiltime/civiltimetop.WholeSpansMirrored", spec := "wholeSpansMirrored", unfollowed := true, recurses := true, plainKeys := false, apart := false, narrowed := true }
def WholeSpansMirroredUptoSaid : Prop := wholeSpansMirroredUptoRow.holds Tryz.pinned (OpenSpec.upto wholeSpansMirroredSpec)

/-- 'civiltimetop.WholeChoicesNumbered', WHERE WHAT IT READS IS OF BULK AT MOST 1048576: true; the input reads as it did. -/
def wholeChoicesNumberedUptoRow : OpenClaim := { program := "ythilkphnjffnhaagreat", sum := "975a5665be5ff9b63800746d74a32107aac6c35a7bba6cdcb8156582c791a0b2", func := "civiltime/civiltimetop.WholeChoicesNumbered", spec := "wholeChoicesNumbered", inPlace := ["internal/reflectlite.ValueOf", "internal/reflectlite.Swapper", "(internal/reflectlite.Value).Len"], unfollowed := true, recurses := true, plainKeys := false, apart := false, narrowed := true }
def WholeChoicesNumberedUptoSaid : Prop := wholeChoicesNumberedUptoRow.holds Tryz.pinned (OpenSpec.upto wholeChoicesNumberedSpec)

/-- 'civiltimetop.WholeChoicesReversed', WHERE WHAT IT READS IS OF BULK AT MOST 1048576: true; the input reads as it did. -/
def wholeChoicesReversedUptoRow : OpenClaim := { program := "ythilkphnjffnhaagreat", sum := "975a5665be5ff9b63800746d74a32107aac6c35a7bba6cdcb8156582c791a0b2", func := "civiltime/civiltimetop.WholeChoicesReversed", spec := "wholeChoicesReversed", inPlace := ["internal/reflectlite.ValueOf", "internal/reflectlite.Swapper", "(internal/reflectlite.Value).Len"], unfollowed := true, recurses := true, plainKeys := false, apart := false, narrowed := true }
def WholeChoicesReversedUptoSaid : Prop := wholeChoicesReversedUptoRow.holds Tryz.pinned (OpenSpec.upto wholeChoicesReversedSpec)

/-- 'civiltimetop.WholeChoicesSpelled', WHERE WHAT IT READS IS OF BULK AT MOST 1048576: true; the input reads as it did. -/
def wholeChoicesSpelledUptoRow : OpenClaim := { program := "ythilkphnjffnhaagreat", sum := "975a5665be5ff9b63800746d74a32107aac6c35a7bba6cdcb8156582c791a0b2", func := "civiltime/civiltimetop.WholeChoicesSpelled", spec := "wholeChoicesSpelled", inPlace := ["internal/reflectlite.ValueOf", "internal/reflectlite.Swapper", "(internal/reflectlite.Value).Len"], unfollowed := true, recurses := true, plainKeys := false, apart := false, narrowed := true }
def WholeChoicesSpelledUptoSaid : Prop := wholeChoicesSpelledUptoRow.holds Tryz.pinned (OpenSpec.upto wholeChoicesSpelledSpec)

/-- 'civiltimetop.WholeTasksNamed', WHERE WHAT IT READS IS OF BULK AT MOST 1048576: true; the input reads as it did. -/
def wholeTasksNamedUptoRow : OpenClaim := { program := "ythilkphnjffnhaagreat", sum := "975a5665be5ff9b63800746d74a32107aac6c35a7bba6cdcb8156582c791a0b2", func := "civiltime/civiltimetop.WholeTasksNamed", spec := "wholeTasksNamed", unfollowed := true, recurses := true, plainKeys := false, apart := false, narrowed := true }
def WholeTasksNamedUptoSaid : Prop := wholeTasksNamedUptoRow.holds Tryz.pinned (OpenSpec.upto wholeTasksNamedSpec)

end Rows
end Go.Proofs.YthilkphnjffnhaaGreat
