/- A list that append has made: what it holds; append of whatever reads as a list; slices.Clone. -/
import Derived.Test.YthilkphnjffnhaaGreatRows
import Derived.Test.YthilkphnjffnhaaGreatOwn
import Derived.Maps.AppendAt
set_option linter.unusedSimpArgs false
set_option linter.unusedVariables false
namespace Go.Proofs.YthilkphnjffnhaaGreat
open Go.RowKit Go.Shelf

/-- what append asks of an element's type -/
structure ElT (P : Program) (t e : TypeId) (k bytes : Nat) : Prop where
  under : P.underlying t = some (.slice e)
  info : ∃ i z, P.info? e = some i ∧ i.zero = some z ∧ i.size = k ∧ i.bytes = bytes ∧ z.cells.size = k
  pos : 0 < k
/-- an encoding by k plain cells -/
structure Enc {α : Type} (enc : α → List Value) (k : Nat) : Prop where
  len : ∀ x, (enc x).length = k
  one : ∀ x, ∀ u ∈ enc x, u.oneCell' = true

/-- v owns a row, from block base on, that holds xs -/
def OwL {α : Type} (enc : α → List Value) (k : Nat) (e : TypeId) (w : World) (base : Nat) (v : Value) (xs : List α) : Prop := w.ownsRow base e k v xs.length (xs.flatMap enc)

section
variable {α : Type} {enc : α → List Value} {k : Nat} {e : TypeId} {w w' : World} {base : Nat} {v : Value} {xs : List α}
theorem OwL.nil : OwL enc k e w base (.slice none 0 0) ([] : List α) := World.ownsRow_nil w base e k
theorem OwL.lt (h : OwL enc k e w base v xs) : ∀ g, v.ownBlock = some g → base ≤ g ∧ g < w.heap.size := World.ownsRow.lt h
theorem OwL.grown {row : Option Nat} (h : OwL enc k e w base v xs) (hg : w.grownBy w' row) (hne : v.ownBlock = none ∨ v.ownBlock ≠ row) : OwL enc k e w' base v xs := World.ownsRow.kept h hg hne
theorem grownBy_below (h : Below w.heap.size w w') : w.grownBy w' none := ⟨h.os, h.tape, h.output, h.size, fun k hk _ => h.block k hk⟩
theorem OwL.below (h : OwL enc k e w base v xs) (hb : Below w.heap.size w w') : OwL enc k e w' base v xs := h.grown (grownBy_below hb) (by cases v.ownBlock <;> simp)
theorem OwL.alloc (h : OwL enc k e w base v xs) (o : Obj) : OwL enc k e (w.alloc o) base v xs := h.below ((Below.refl _ _).alloc (Nat.le_refl _) _)
theorem OwL.ext (h : OwL enc k e w base v xs) (x : Xt) : OwL enc k e (w.ext x) base v xs := h.below (below_ext w x)
theorem OwL.drew (h : OwL enc k e w base v xs) : OwL enc k e w.drew base v xs := h
theorem OwL.far (h : OwL enc k e w base v xs) {p : Addr} (hp : v.ownBlock ≠ some p.block) (u : Value) : OwL enc k e (w.setCell p u) base v xs :=
  h.grown (row := some p.block) ⟨rfl, rfl, rfl, by simp [World.setCell], fun b hb hne => Below.heap_setCell w p u b (fun e => hne (by rw [e]))⟩ (by
    cases hv : v.ownBlock with
    | none => exact .inl rfl
    | some g => right; rw [← hv]; exact hp)
theorem OwL.mono {base' : Nat} (h : OwL enc k e w base v xs) (hb : base' ≤ base) : OwL enc k e w base' v xs := by
  refine ⟨h.1, ?_⟩
  rcases h.2 with h0 | ⟨g, cap, cur, h1, h2, h3⟩
  · exact .inl h0
  · exact .inr ⟨g, cap, cur, h1, by omega, h3⟩
/-- its form: nil, or a slice at the head of a block -/
theorem OwL.form (h : OwL enc k e w base v xs) : (v = .slice none 0 0 ∧ xs = []) ∨ ∃ g cap, v = .slice (some ⟨g, 0, none⟩) xs.length cap ∧ base ≤ g ∧ g < w.heap.size := by
  rcases h.2 with ⟨h0, h1⟩ | ⟨g, cap, cur, h1, h2, h3, _⟩
  · exact .inl ⟨h0, List.eq_nil_of_length_eq_zero h1⟩
  · exact .inr ⟨g, cap, h1, h2, (Array.getElem?_eq_some_iff.1 h3).1⟩
/-- it reads as the list that it holds -/
theorem OwL.rd (h : OwL enc k e w base v xs) (hk : ∀ x, (enc x).length = k) (hlen : xs.length ≤ 140737488355328) : ∃ A c, v = .slice A xs.length c ∧ RdS enc k w A xs := by
  rcases h.form with ⟨rfl, rfl⟩ | ⟨g, cap, rfl, h2, h3⟩
  · exact ⟨none, 0, rfl, RdS.nil⟩
  · refine ⟨some ⟨g, 0, none⟩, cap, rfl, hlen, fun i x hx => ⟨g, 0, rfl, h3, fun j u hu => ?_⟩⟩
    have hj : j < k := by have := (List.getElem?_eq_some_iff.1 hu).1; rw [hk] at this; exact this
    have hi := (List.getElem?_eq_some_iff.1 hx).1
    have hlt : i * k + j < xs.length * k := by
      have : (i + 1) * k ≤ xs.length * k := Nat.mul_le_mul_right k hi
      rw [Nat.add_mul] at this; omega
    rw [Nat.zero_add, h.cellAt _ hlt]
    exact flatMap_get hk xs i x j u hx hu
theorem OwL.ows [Inhabited α] {g cap : Nat} (hk : ∀ x, (enc x).length = k) (h : OwL enc k e w base (.slice (some ⟨g, 0, none⟩) xs.length cap) xs) : OwS enc k w base g xs.length (fun i => xs.getD i default) := OwS.of_own hk h

/-- one element, laid in a block of its own, reads as a list -/
theorem rd_one (w : World) (x : α) (e : TypeId) : RdS enc k (w.alloc (.cells (enc x).toArray e)) (some ⟨w.heap.size, 0, none⟩) [x] := by
  refine ⟨by simp, fun i y hy => ?_⟩
  have hi : i = 0 := by have := (List.getElem?_eq_some_iff.1 hy).1; simpa using this
  subst hi
  simp at hy; subst hy
  refine ⟨w.heap.size, 0, rfl, by simp, fun j u hu => ?_⟩
  simp only [Nat.zero_mul, Nat.zero_add]
  rw [World.cell?_alloc_new]
  simpa using hu

theorem rd_cells {A : Option Addr} (hk : ∀ x, (enc x).length = k) (hpos : 0 < k) (h : RdS enc k w A xs) {b off : Nat} (hA : A = some ⟨b, off, none⟩) : ∀ j u, (xs.flatMap enc)[j]? = some u → w.cell? ((⟨b, off, none⟩ : Addr).add j) = some u := by
  intro j u hu
  have hjl := (List.getElem?_eq_some_iff.1 hu).1
  rw [flatMap_len hk] at hjl
  have hi : j / k < xs.length := Nat.div_lt_of_lt_mul (by rw [Nat.mul_comm]; exact hjl)
  have hjk : j % k < k := Nat.mod_lt _ hpos
  have hx : xs[j / k]? = some xs[j / k] := List.getElem?_eq_getElem hi
  have hu2 : (enc xs[j / k])[j % k]? = some (enc xs[j / k])[j % k]! := by
    rw [getElem!_pos _ _ (by rw [hk]; exact hjk)]; exact List.getElem?_eq_getElem (by rw [hk]; exact hjk)
  have := flatMap_get hk xs (j / k) _ (j % k) _ hx hu2
  have ej : j / k * k + j % k = j := by rw [Nat.mul_comm]; exact Nat.div_add_mod j k
  rw [ej, hu] at this
  injection this with hval
  obtain ⟨b', off', e', _, hc⟩ := h.cells _ _ hx
  rw [hA] at e'; cases e'
  have := hc (j % k) u (by rw [hu2, ← hval])
  rw [show off + j / k * k + j % k = off + j by omega] at this
  have hadd : (⟨b, off, none⟩ : Addr).add j = ⟨b, off + j, none⟩ := by unfold Addr.add; split <;> simp_all
  rw [hadd]; exact this

theorem run_append_nil_any {P : Program} (t ty : TypeId) (ht : P.underlying t = some (.slice e)) (hi : (P.info? e).isSome) (n : Nat) (ys : List Value) (hown : w.ownsRow base e k v n ys) (A : Option Addr) (c : Nat) :
    (Builtin.append_ #[t, t] ty #[v, .slice none 0 c]).run P w = .ok v w := by
  obtain ⟨i, hi⟩ := Option.isSome_iff_exists.1 hi
  rcases hown.2 with ⟨rfl, rfl⟩ | ⟨g, cap, cur, rfl, _, _, hnc, _⟩
  · simp [Builtin.append_, run_underlying ht, sizeOf, typeInfo, hi, Builtin.lenOf, Builtin.firstCells]
  · simp [Builtin.append_, run_underlying ht, sizeOf, typeInfo, hi, Builtin.lenOf, Builtin.firstCells, hnc, storeCells]

/-- append, at the operation -/
theorem wpList_app {P : Program} {ops : Array Oper} {rest : List Oper} {o : Oper} {a : Act} {Q : Exit → Act → World → Prop} (hgd : o.guard = none) (s x : Operand) (t : TypeId)
    (ho : o.op = .call { callee := .builtin .append, args := #[s, x], argTypes := #[t, t] }) {bytes : Nat} (T : ElT P t e k bytes) (E : Enc enc k)
    (hs : a.eval s = v) (hown : OwL enc k e w base v xs) {A : Option Addr} {c : Nat} {ys : List α} (hx : a.eval x = .slice A ys.length c) (hr : RdS enc k w A ys) (hne : ys = [] → A = none ∨ ∃ b off, A = some ⟨b, off, none⟩)
    (hbytes : (xs.length + ys.length) * bytes ≤ 140737488355328) (hb8 : 1 ≤ bytes) (hbase : base ≤ w.heap.size)
    (h : ∀ v' w', OwL enc k e w' base v' (xs ++ ys) → w.grownBy w' v.ownBlock → (v' = .slice none 0 0 ↔ v = .slice none 0 0 ∧ ys = []) → (v'.ownBlock = v.ownBlock ∨ v'.ownBlock = some w.heap.size) → wpList P ops Q rest (a.put o.dst v') w') :
    wpList P ops Q (o :: rest) a w := by
  obtain ⟨i, z, hi, hz, hsz, hby, hzs⟩ := T.info
  refine wpList_plain hgd fun K hK => ?_
  have hlen : xs.length + ys.length ≤ maxLen := by
    have : xs.length + ys.length ≤ (xs.length + ys.length) * bytes := Nat.le_mul_of_pos_right _ hb8
    simp only [maxLen]; omega
  have key : ∃ v' w', (Builtin.append_ #[t, t] o.type #[v, .slice A ys.length c]).run P w = .ok v' w' ∧ OwL enc k e w' base v' (xs ++ ys) ∧ w.grownBy w' v.ownBlock ∧ (v' = .slice none 0 0 ↔ v = .slice none 0 0 ∧ ys = []) ∧ (v'.ownBlock = v.ownBlock ∨ v'.ownBlock = some w.heap.size) := by
    cases A with
    | none =>
      have hy : ys = [] := by
        rcases ys with _ | ⟨y, ys⟩
        · rfl
        · obtain ⟨b, off, e, _⟩ := hr.at_ 0 (by simp)
          cases e
      subst hy
      refine ⟨v, w, run_append_nil_any (e := e) (k := k) (base := base) t o.type T.under (by rw [hi]; rfl) xs.length _ hown none c, by rw [List.append_nil]; exact hown, World.grownBy.refl w _, ⟨fun h => ⟨h, rfl⟩, fun h => h.1⟩, .inl rfl⟩
    | some ad =>
      obtain ⟨b, off, hA⟩ : ∃ b off, ad = ⟨b, off, none⟩ := by
        rcases ys with _ | ⟨y, ys⟩
        · rcases hne rfl with h | ⟨b, off, h⟩
          · cases h
          · exact ⟨b, off, by injection h⟩
        · obtain ⟨b, off, e, _⟩ := hr.at_ 0 (by simp)
          exact ⟨b, off, by injection e⟩
      subst hA
      obtain ⟨v', w', h1, h2, h3, h4, h5⟩ := run_append_own_at (P := P) w base t o.type e i z k bytes T.under hi hz hsz hby hzs T.pos v xs.length _ hown ⟨b, off, none⟩ ys.length c (ys.flatMap enc) (flatMap_len E.len ys) (rd_cells E.len T.pos hr rfl) (fun u hu => by
        obtain ⟨y, _, hy⟩ := List.mem_flatMap.1 hu
        exact E.one y u hy) hlen hbytes hbase
      refine ⟨v', w', h1, ?_, h3, ?_, h5⟩
      · unfold OwL; rw [List.length_append, List.flatMap_append]; exact h2
      · rw [h4]; simp [List.length_eq_zero_iff]
  obtain ⟨v', w', hrun, h2, h3, h4, h5⟩ := key
  unfold Oper.wp execOp
  simp only [ho, resolve, invoke, builtin, Sem.run_bind, Sem.run_pure, Result.andThen_ok, List.map_toArray, List.map_cons, List.map_nil, hs, hx, hrun]
  exact hK _ _ (h v' w' h2 h3 h4 h5)
end
end Go.Proofs.YthilkphnjffnhaaGreat

/- slices.Clone makes a new row that holds the same. -/
namespace Go.Proofs.YthilkphnjffnhaaGreat
open Go.RowKit Go.Shelf

theorem enc24 : Enc Bd.enc 3 := ⟨fun _ => rfl, fun x u hu => by
  simp only [Bd.enc, List.mem_cons, List.not_mem_nil, or_false] at hu
  rcases hu with rfl | rfl | rfl <;> rfl⟩
theorem elT24 : ElT Tryz.prog 22 29 3 24 := ⟨Tryz.underlying22, by
  have h : ((Tryz.prog.info? 29).map fun i => (i.zero.map fun z => z.cells.size, i.size, i.bytes)) = some (some 3, 3, 24) := by kernel_rfl
  obtain ⟨i, hi, h2⟩ := Option.map_eq_some_iff.1 h
  simp only [Prod.mk.injEq] at h2
  obtain ⟨z, hz, hzs⟩ := Option.map_eq_some_iff.1 h2.1
  exact ⟨i, z, hi, hz, h2.2.1, h2.2.2, hzs⟩, by decide⟩
theorem clone24_nil (c : Nat) (w : World) : Calls Tryz.prog 24 #[.slice none 0 c] w fun e w' => e = .returned (.slice none 0 0) ∧ w = w' := by
  have hq := fun w : World => Lib.run_eql_slice_nil (P := Tryz.prog) w 22 29 none 0 c 0 0 Tryz.underlying22
  go_enter Tryz.func24, Tryz.ntmps24
  go_wp2
  go_ret
  exact ⟨rfl, rfl⟩
theorem clone24 (b off c : Nat) (xs : List Bd) (w : World) (hs : RdS Bd.enc 3 w (some ⟨b, off, none⟩) xs) (hn : xs.length ≤ 1000000) :
    Calls Tryz.prog 24 #[.slice (some ⟨b, off, none⟩) xs.length c] w fun e w' => ∃ g cap, e = .returned (.slice (some ⟨g, 0, none⟩) xs.length cap) ∧ OwL Bd.enc 3 29 w' w.heap.size (.slice (some ⟨g, 0, none⟩) xs.length cap) xs ∧ Below w.heap.size w w' := by
  have hB : Below w.heap.size w (w.alloc (.cells #[] 29)) := (Below.refl _ _).alloc (Nat.le_refl _) _
  have hown : OwL Bd.enc 3 29 (w.alloc (.cells #[] 29)) w.heap.size (.slice (some ⟨w.heap.size, 0, none⟩) 0 0) ([] : List Bd) :=
    World.ownsRow_made w #[] 0 (Nat.le_refl _) (by simp [maxLen]) (by simp)
  have hs' := hs.below hB
  have HS := Lib.hid hs; clear hs
  have hq := fun w : World => Lib.run_eql_slice_nil (P := Tryz.prog) w 22 29 (some ⟨b, off, none⟩) xs.length c 0 0 Tryz.underlying22
  go_enter Tryz.func24, Tryz.ntmps24
  go_wp2_with (at_builtin; refine wpList_app (v := .slice (some ⟨w.heap.size, 0, none⟩) 0 0) rfl _ _ 22 rfl elT24 enc24 rfl hown rfl hs' (fun _ => .inr ⟨b, off, rfl⟩) (by simp; omega) (by decide) (by simp) ?_; intro v' w1 hown' hgrow hnil hat)
  go_ret
  rcases hown'.form with ⟨rfl, _⟩ | ⟨g, cap, rfl, _, _⟩
  · have := hnil.1 rfl; simp at this
  · exact ⟨g, cap, rfl, hown', hB.grown hgrow (by simp) (fun k hk => by simp [Value.ownBlock] at hk; omega)⟩

theorem enc55 : Enc Sp.enc 2 := ⟨fun _ => rfl, fun x u hu => by
  simp only [Sp.enc, List.mem_cons, List.not_mem_nil, or_false] at hu
  rcases hu with rfl | rfl <;> rfl⟩
theorem elT55 : ElT Tryz.prog 56 58 2 16 := ⟨Tryz.underlying56, by
  have h : ((Tryz.prog.info? 58).map fun i => (i.zero.map fun z => z.cells.size, i.size, i.bytes)) = some (some 2, 2, 16) := by kernel_rfl
  obtain ⟨i, hi, h2⟩ := Option.map_eq_some_iff.1 h
  simp only [Prod.mk.injEq] at h2
  obtain ⟨z, hz, hzs⟩ := Option.map_eq_some_iff.1 h2.1
  exact ⟨i, z, hi, hz, h2.2.1, h2.2.2, hzs⟩, by decide⟩
theorem clone55_nil (c : Nat) (w : World) : Calls Tryz.prog 55 #[.slice none 0 c] w fun e w' => e = .returned (.slice none 0 0) ∧ w = w' := by
  have hq := fun w : World => Lib.run_eql_slice_nil (P := Tryz.prog) w 56 58 none 0 c 0 0 Tryz.underlying56
  go_enter Tryz.func55, Tryz.ntmps55
  go_wp2
  go_ret
  exact ⟨rfl, rfl⟩
theorem clone55 (b off c : Nat) (xs : List Sp) (w : World) (hs : RdS Sp.enc 2 w (some ⟨b, off, none⟩) xs) (hn : xs.length ≤ 1000000) :
    Calls Tryz.prog 55 #[.slice (some ⟨b, off, none⟩) xs.length c] w fun e w' => ∃ g cap, e = .returned (.slice (some ⟨g, 0, none⟩) xs.length cap) ∧ OwL Sp.enc 2 58 w' w.heap.size (.slice (some ⟨g, 0, none⟩) xs.length cap) xs ∧ Below w.heap.size w w' := by
  have hB : Below w.heap.size w (w.alloc (.cells #[] 58)) := (Below.refl _ _).alloc (Nat.le_refl _) _
  have hown : OwL Sp.enc 2 58 (w.alloc (.cells #[] 58)) w.heap.size (.slice (some ⟨w.heap.size, 0, none⟩) 0 0) ([] : List Sp) :=
    World.ownsRow_made w #[] 0 (Nat.le_refl _) (by simp [maxLen]) (by simp)
  have hs' := hs.below hB
  have HS := Lib.hid hs; clear hs
  have hq := fun w : World => Lib.run_eql_slice_nil (P := Tryz.prog) w 56 58 (some ⟨b, off, none⟩) xs.length c 0 0 Tryz.underlying56
  go_enter Tryz.func55, Tryz.ntmps55
  go_wp2_with (at_builtin; refine wpList_app (v := .slice (some ⟨w.heap.size, 0, none⟩) 0 0) rfl _ _ 56 rfl elT55 enc55 rfl hown rfl hs' (fun _ => .inr ⟨b, off, rfl⟩) (by simp; omega) (by decide) (by simp) ?_; intro v' w1 hown' hgrow hnil hat)
  go_ret
  rcases hown'.form with ⟨rfl, _⟩ | ⟨g, cap, rfl, _, _⟩
  · have := hnil.1 rfl; simp at this
  · exact ⟨g, cap, rfl, hown', hB.grown hgrow (by simp) (fun k hk => by simp [Value.ownBlock] at hk; omega)⟩

theorem enc57 : Enc encI 1 := ⟨fun _ => rfl, fun x u hu => by
  simp only [encI, List.mem_cons, List.not_mem_nil, or_false] at hu
  subst hu <;> rfl⟩
theorem elT57 : ElT Tryz.prog 26 3 1 8 := ⟨Tryz.underlying26, by
  have h : ((Tryz.prog.info? 3).map fun i => (i.zero.map fun z => z.cells.size, i.size, i.bytes)) = some (some 1, 1, 8) := by kernel_rfl
  obtain ⟨i, hi, h2⟩ := Option.map_eq_some_iff.1 h
  simp only [Prod.mk.injEq] at h2
  obtain ⟨z, hz, hzs⟩ := Option.map_eq_some_iff.1 h2.1
  exact ⟨i, z, hi, hz, h2.2.1, h2.2.2, hzs⟩, by decide⟩
theorem clone57_nil (c : Nat) (w : World) : Calls Tryz.prog 57 #[.slice none 0 c] w fun e w' => e = .returned (.slice none 0 0) ∧ w = w' := by
  have hq := fun w : World => Lib.run_eql_slice_nil (P := Tryz.prog) w 26 3 none 0 c 0 0 Tryz.underlying26
  go_enter Tryz.func57, Tryz.ntmps57
  go_wp2
  go_ret
  exact ⟨rfl, rfl⟩
theorem clone57 (b off c : Nat) (xs : List Int) (w : World) (hs : RdS encI 1 w (some ⟨b, off, none⟩) xs) (hn : xs.length ≤ 1000000) :
    Calls Tryz.prog 57 #[.slice (some ⟨b, off, none⟩) xs.length c] w fun e w' => ∃ g cap, e = .returned (.slice (some ⟨g, 0, none⟩) xs.length cap) ∧ OwL encI 1 3 w' w.heap.size (.slice (some ⟨g, 0, none⟩) xs.length cap) xs ∧ Below w.heap.size w w' := by
  have hB : Below w.heap.size w (w.alloc (.cells #[] 3)) := (Below.refl _ _).alloc (Nat.le_refl _) _
  have hown : OwL encI 1 3 (w.alloc (.cells #[] 3)) w.heap.size (.slice (some ⟨w.heap.size, 0, none⟩) 0 0) ([] : List Int) :=
    World.ownsRow_made w #[] 0 (Nat.le_refl _) (by simp [maxLen]) (by simp)
  have hs' := hs.below hB
  have HS := Lib.hid hs; clear hs
  have hq := fun w : World => Lib.run_eql_slice_nil (P := Tryz.prog) w 26 3 (some ⟨b, off, none⟩) xs.length c 0 0 Tryz.underlying26
  go_enter Tryz.func57, Tryz.ntmps57
  go_wp2_with (at_builtin; refine wpList_app (v := .slice (some ⟨w.heap.size, 0, none⟩) 0 0) rfl _ _ 26 rfl elT57 enc57 rfl hown rfl hs' (fun _ => .inr ⟨b, off, rfl⟩) (by simp; omega) (by decide) (by simp) ?_; intro v' w1 hown' hgrow hnil hat)
  go_ret
  rcases hown'.form with ⟨rfl, _⟩ | ⟨g, cap, rfl, _, _⟩
  · have := hnil.1 rfl; simp at this
  · exact ⟨g, cap, rfl, hown', hB.grown hgrow (by simp) (fun k hk => by simp [Value.ownBlock] at hk; omega)⟩

theorem enc128 : Enc Ch.enc 3 := ⟨fun _ => rfl, fun x u hu => by
  simp only [Ch.enc, List.mem_cons, List.not_mem_nil, or_false] at hu
  rcases hu with rfl | rfl | rfl <;> rfl⟩
theorem elT128 : ElT Tryz.prog 88 91 3 40 := ⟨Tryz.underlying88, by
  have h : ((Tryz.prog.info? 91).map fun i => (i.zero.map fun z => z.cells.size, i.size, i.bytes)) = some (some 3, 3, 40) := by kernel_rfl
  obtain ⟨i, hi, h2⟩ := Option.map_eq_some_iff.1 h
  simp only [Prod.mk.injEq] at h2
  obtain ⟨z, hz, hzs⟩ := Option.map_eq_some_iff.1 h2.1
  exact ⟨i, z, hi, hz, h2.2.1, h2.2.2, hzs⟩, by decide⟩
theorem clone128_nil (c : Nat) (w : World) : Calls Tryz.prog 128 #[.slice none 0 c] w fun e w' => e = .returned (.slice none 0 0) ∧ w = w' := by
  have hq := fun w : World => Lib.run_eql_slice_nil (P := Tryz.prog) w 88 91 none 0 c 0 0 Tryz.underlying88
  go_enter Tryz.func128, Tryz.ntmps128
  go_wp2
  go_ret
  exact ⟨rfl, rfl⟩
theorem clone128 (b off c : Nat) (xs : List Ch) (w : World) (hs : RdS Ch.enc 3 w (some ⟨b, off, none⟩) xs) (hn : xs.length ≤ 1000000) :
    Calls Tryz.prog 128 #[.slice (some ⟨b, off, none⟩) xs.length c] w fun e w' => ∃ g cap, e = .returned (.slice (some ⟨g, 0, none⟩) xs.length cap) ∧ OwL Ch.enc 3 91 w' w.heap.size (.slice (some ⟨g, 0, none⟩) xs.length cap) xs ∧ Below w.heap.size w w' := by
  have hB : Below w.heap.size w (w.alloc (.cells #[] 91)) := (Below.refl _ _).alloc (Nat.le_refl _) _
  have hown : OwL Ch.enc 3 91 (w.alloc (.cells #[] 91)) w.heap.size (.slice (some ⟨w.heap.size, 0, none⟩) 0 0) ([] : List Ch) :=
    World.ownsRow_made w #[] 0 (Nat.le_refl _) (by simp [maxLen]) (by simp)
  have hs' := hs.below hB
  have HS := Lib.hid hs; clear hs
  have hq := fun w : World => Lib.run_eql_slice_nil (P := Tryz.prog) w 88 91 (some ⟨b, off, none⟩) xs.length c 0 0 Tryz.underlying88
  go_enter Tryz.func128, Tryz.ntmps128
  go_wp2_with (at_builtin; refine wpList_app (v := .slice (some ⟨w.heap.size, 0, none⟩) 0 0) rfl _ _ 88 rfl elT128 enc128 rfl hown rfl hs' (fun _ => .inr ⟨b, off, rfl⟩) (by simp; omega) (by decide) (by simp) ?_; intro v' w1 hown' hgrow hnil hat)
  go_ret
  rcases hown'.form with ⟨rfl, _⟩ | ⟨g, cap, rfl, _, _⟩
  · have := hnil.1 rfl; simp at this
  · exact ⟨g, cap, rfl, hown', hB.grown hgrow (by simp) (fun k hk => by simp [Value.ownBlock] at hk; omega)⟩

end Go.Proofs.YthilkphnjffnhaaGreat
