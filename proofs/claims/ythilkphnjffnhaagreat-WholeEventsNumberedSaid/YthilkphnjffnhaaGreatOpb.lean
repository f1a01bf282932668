/- Bytes that came in, as a list. -/
import Derived.Test.YthilkphnjffnhaaGreatOpn
set_option linter.unusedSimpArgs false
set_option linter.unusedVariables false
namespace Go.Proofs.YthilkphnjffnhaaGreat
open Go.RowKit Go.Deep Go.ChangeShapes Go.WideShapes Go.ChangeAt
theorem Tryz.bytes5 : Tryz.prog.bytesOf 5 = 1 := by kernel_rfl
instance : Inhabited { x : Nat // x < 256 } := ⟨⟨0, by omega⟩⟩
section
variable {H : Type} {enc : TypeId × Value → H} {W : World} {base : Nat} {spare : Nat → Bool} {held : Bool}
theorem open_bytes {a : Option Addr} {len cap : Nat} {d : DataW H} {p : List MemPlace} (hsz : ∀ el sp, d = .slice el sp → (el.length + sp.length) * Tryz.prog.bytesOf 5 ≤ reachBytes) (h : DataW.Trod enc Tryz.prog W base spare held 23 (.slice a len cap) d p) :
    ∃ l : List Nat, l.length = len ∧ RdS encB 1 W a l ∧ ∀ x ∈ l, x < 256 := by
  obtain ⟨fuel, hf⟩ := h
  rcases open_slice Tryz.underlying23 hf with ⟨hcs, _⟩ | ⟨x, l, c, m, n, D, Pl, hcs, hb, hl, hm, hmm, hd, hel⟩
  · simp [Value.cells] at hcs
    obtain ⟨rfl, rfl, rfl⟩ := hcs
    exact ⟨[], rfl, RdS.nil, fun x hx => by cases hx⟩
  · simp [Value.cells] at hcs
    obtain ⟨rfl, rfl, rfl⟩ := hcs
    have hs := hsz _ _ (congrArg Prod.fst hd)
    rw [Tryz.bytes5] at hs
    simp only [List.length_map, List.length_range, reachBytes] at hs
    obtain ⟨l, hll, hr⟩ := rds_open (α := { x : Nat // x < 256 }) (enc := fun x => encB x.1) (k := 1) (base := base) (W := W) (a := x) (len := len) (by omega) (by omega) fun i hi => by
      obtain ⟨cs, h1, h2⟩ := hel i (by rw [hmm]; split <;> omega)
      obtain ⟨y, rfl, _, hw⟩ := DataW.trod_int Tryz.underlying5 h2
      rw [Tryz.cells5] at h1
      have hb : 0 ≤ y ∧ y < 256 := by
        have := hw
        simp [Lit.wf] at this
        have e1 : IntKind.u8.min = 0 := by decide
        have e2 : IntKind.u8.max = 255 := by decide
        omega
      refine ⟨⟨y.toNat, by omega⟩, ?_⟩
      rw [h1]
      simp only [encB]
      rw [show ((y.toNat : Nat) : Int) = y by omega]
    refine ⟨l.map (·.1), by simpa using hll, ⟨by have := hr.len; simpa using this, fun i u hu => ?_⟩, fun u hu => ?_⟩
    · rw [List.getElem?_map] at hu
      cases hx : l[i]? with
      | none => rw [hx] at hu; cases hu
      | some y =>
        rw [hx] at hu
        simp only [Option.map_some, Option.some.injEq] at hu
        subst hu
        exact hr.cells i y hx
    · obtain ⟨y, _, rfl⟩ := List.mem_map.1 hu
      exact y.2
end
end Go.Proofs.YthilkphnjffnhaaGreat
