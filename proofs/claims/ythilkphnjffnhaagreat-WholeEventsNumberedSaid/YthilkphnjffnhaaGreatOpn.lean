/- The arguments that came in, as lists. -/
import Derived.Test.YthilkphnjffnhaaGreatOwn
import Derived.ProofKit
import Derived.OpenShut
import Derived.ShutString
import Derived.ChangeOld
import Derived.Below
import Derived.Deep.Slices
import Derived.Deep.Strs
import Derived.SizedLaws
set_option linter.unusedSimpArgs false
set_option linter.unusedVariables false
namespace Go.Proofs.YthilkphnjffnhaaGreat
open Go.RowKit Go.Deep Go.ChangeShapes Go.WideShapes Go.ChangeAt

instance : Inhabited Bd := ⟨⟨0, 0, 0⟩⟩
theorem Tryz.own : ownKnob Tryz.prog.godebug = none := by kernel_rfl
theorem Tryz.laidOut : laidOutB Tryz.prog = true := by kernel_rfl
theorem Tryz.cells3 : Tryz.prog.cellsOf 3 = 1 := by kernel_rfl
theorem Tryz.cells5 : Tryz.prog.cellsOf 5 = 1 := by kernel_rfl
theorem Tryz.cells29 : Tryz.prog.cellsOf 29 = 3 := by kernel_rfl
theorem Tryz.bytes29 : Tryz.prog.bytesOf 29 = 24 := by kernel_rfl

/-- a row that came in, element by element, reads as a list -/
theorem rds_open {α : Type} [Inhabited α] {enc : α → List Value} {k : Nat} {W : World} {base : Nat} {a : Addr} {len : Nat} (hk : 0 < k) (hlen : len ≤ 140737488355328)
    (h : ∀ i, i < len → ∃ x : α, W.cells? base (a.add (i * k)) k = some (enc x)) : ∃ l : List α, l.length = len ∧ RdS enc k W (some a) l := by
  obtain ⟨F, hF⟩ := choose_lt h
  refine ⟨(List.range len).map F, by simp, by simpa using hlen, fun i x hx => ?_⟩
  have hi : i < len := by have := (List.getElem?_eq_some_iff.1 hx).1; simpa using this
  obtain rfl : F i = x := by
    rw [List.getElem?_map, List.getElem?_range hi] at hx
    simpa using hx
  have h0 := hF 0 (by omega)
  have hb0 := World.cells?_block h0 hk
  obtain ⟨_, hl0, hc0⟩ := World.cells?_some h0
  have hc00 := hc0 0 hk
  obtain ⟨b, off, spot⟩ := a
  have e0 : ((⟨b, off, spot⟩ : Addr).add (0 * k)).add 0 = ⟨b, off, spot⟩ := by simp [Addr.add]
  rw [e0, List.getElem?_eq_getElem (by rw [hl0]; exact hk)] at hc00
  obtain rfl : spot = none := World.cell?_spot hc00
  have hb : b < W.heap.size := by simpa [Addr.add] using hb0
  refine ⟨b, off, rfl, hb, fun j u hu => ?_⟩
  obtain ⟨_, hl, hc⟩ := World.cells?_some (hF i hi)
  have hj : j < k := by have := (List.getElem?_eq_some_iff.1 hu).1; rw [hl] at this; exact this
  have := hc j hj
  rw [hu, Go.Deep.add_add] at this
  have hadd : (⟨b, off, none⟩ : Addr).add (i * k + j) = ⟨b, off + i * k + j, none⟩ := by
    unfold Addr.add
    split
    · rename_i e; simp [e, Nat.add_assoc]
    · simp [Nat.add_assoc]
  rw [hadd] at this
  exact this

section
variable {H : Type} {enc : TypeId × Value → H} {W : World} {base : Nat} {spare : Nat → Bool} {held : Bool}
theorem int_of {t : TypeId} {n : Nat} {cs : List Value} {y : DataW H × List MemPlace} {k : IntKind} (ht : Tryz.prog.underlying t = some (.int k)) (h : DataW.trod enc Tryz.prog W base spare held n t cs = some y) : ∃ i, cs = [.int k i] := by
  obtain ⟨i, e, _, _⟩ := DataW.trod_int ht h
  exact ⟨i, e⟩
set_option maxRecDepth 100000 in
theorem bd_of {n : Nat} {cs : List Value} {y : DataW H × List MemPlace} (h : DataW.trod enc Tryz.prog W base spare held n 29 cs = some y) : ∃ x : Bd, cs = Bd.enc x := by
  obtain ⟨y0, y1, y2, m, _, hl, g0, g1, g2⟩ := trod_struct3 Tryz.underlying29 h
  obtain ⟨i, e0⟩ := int_of Tryz.underlying3 g0
  obtain ⟨j, e1⟩ := int_of Tryz.underlying3 g1
  obtain ⟨q, e2⟩ := int_of Tryz.underlying3 g2
  rw [Tryz.cells29] at hl
  simp only [Tryz.cells3] at e0 e1 e2
  match cs, hl with
  | [c0, c1, c2], _ =>
    simp at e0 e1 e2
    subst e0 e1 e2
    exact ⟨⟨i, j, q⟩, rfl⟩
theorem open_bds {a : Option Addr} {len cap : Nat} {d : DataW H} {p : List MemPlace} (hsz : ∀ el sp, d = .slice el sp → (el.length + sp.length) * Tryz.prog.bytesOf 29 ≤ reachBytes) (h : DataW.Trod enc Tryz.prog W base spare held 22 (.slice a len cap) d p) : ∃ l : List Bd, l.length = len ∧ RdS Bd.enc 3 W a l := by
  obtain ⟨fuel, hf⟩ := h
  rcases open_slice Tryz.underlying22 hf with ⟨hcs, _⟩ | ⟨x, l, c, m, n, D, Pl, hcs, hb, hl, hm, hmm, hd, hel⟩
  · simp [Value.cells] at hcs
    obtain ⟨rfl, rfl, rfl⟩ := hcs
    exact ⟨[], rfl, RdS.nil⟩
  · simp [Value.cells] at hcs
    obtain ⟨rfl, rfl, rfl⟩ := hcs
    have hs := hsz _ _ (congrArg Prod.fst hd)
    rw [Tryz.bytes29] at hs
    simp only [List.length_map, List.length_range, reachBytes] at hs
    refine rds_open (base := base) (by omega) (by omega) fun i hi => ?_
    obtain ⟨cs, h1, h2⟩ := hel i (by rw [hmm]; split <;> omega)
    obtain ⟨x, rfl⟩ := bd_of h2
    rw [Tryz.cells29] at h1
    exact ⟨x, h1⟩
end
end Go.Proofs.YthilkphnjffnhaaGreat
