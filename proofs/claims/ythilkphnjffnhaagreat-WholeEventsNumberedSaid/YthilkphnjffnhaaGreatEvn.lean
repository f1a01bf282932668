/- WholeEventsNumbered. -/
import Derived.Test.YthilkphnjffnhaaGreatTrv
import Derived.Test.YthilkphnjffnhaaGreatRev
import Derived.Deep.RegionHeld3
import Derived.Deep.AppendLies
set_option linter.unusedSimpArgs false
set_option linter.unusedVariables false
namespace Go.Proofs.YthilkphnjffnhaaGreat
open Go.RowKit Go.Shelf

/-- append, at a step of a region that draws its order -/
theorem step_app {α : Type} {enc : α → List Value} {k : Nat} {e : TypeId} {w : World} {base : Nat} {v : Value} {xs : List α} {P : Program} {ops : Array Oper} {o : Oper} {a : Act} {K : Act → World → Prop} {Q : Exit → Act → World → Prop} {E0 : Prop} (hgd : o.guard = none) (s x : Operand) (t : TypeId)
    (ho : o.op = .call { callee := .builtin .append, args := #[s, x], argTypes := #[t, t] }) {bytes : Nat} (T : ElT P t e k bytes) (E : Enc enc k)
    (hs : a.eval s = v) (hown : OwL enc k e w base v xs) {A : Option Addr} {c : Nat} {ys : List α} (hx : a.eval x = .slice A ys.length c) (hr : RdS enc k w A ys) (hne : ys = [] → A = none ∨ ∃ b off, A = some ⟨b, off, none⟩)
    (hbytes : (xs.length + ys.length) * bytes ≤ 140737488355328) (hb8 : 1 ≤ bytes) (hbase : base ≤ w.heap.size)
    (h : ∀ v' w', OwL enc k e w' base v' (xs ++ ys) → w.grownBy w' v.ownBlock → (v' = .slice none 0 0 ↔ v = .slice none 0 0 ∧ ys = []) → (v'.ownBlock = v.ownBlock ∨ v'.ownBlock = some w.heap.size) → K (a.put o.dst v') w') :
    if Region.wanted o (yielded ops a.tmps) = true then Oper.wp P o a w K Q else E0 := by
  have hwt : Region.wanted o (yielded ops a.tmps) = true := by simp [Region.wanted, hgd]
  rw [if_pos hwt]
  obtain ⟨i, z, hi, hz, hsz, hby, hzs⟩ := T.info
  have hlen : xs.length + ys.length ≤ maxLen := by
    have : xs.length + ys.length ≤ (xs.length + ys.length) * bytes := Nat.le_mul_of_pos_right _ hb8
    simp only [maxLen]; omega
  have key : ∃ v' w', (Builtin.append_ #[t, t] o.type #[v, .slice A ys.length c]).run P w = .ok v' w' ∧ OwL enc k e w' base v' (xs ++ ys) ∧ w.grownBy w' v.ownBlock ∧ (v' = .slice none 0 0 ↔ v = .slice none 0 0 ∧ ys = []) ∧ (v'.ownBlock = v.ownBlock ∨ v'.ownBlock = some w.heap.size) := by
    cases A with
    | none =>
      have hy : ys = [] := by
        rcases ys with _ | ⟨y, ys⟩
        · rfl
        · obtain ⟨b, off, e, _⟩ := hr.at_ 0 (by simp)
          cases e
      subst hy
      refine ⟨v, w, run_append_nil_any (e := e) (k := k) (base := base) t o.type T.under (by rw [hi]; rfl) xs.length _ hown none c, by rw [List.append_nil]; exact hown, World.grownBy.refl w _, ⟨fun h => ⟨h, rfl⟩, fun h => h.1⟩, .inl rfl⟩
    | some ad =>
      obtain ⟨b, off, hA⟩ : ∃ b off, ad = ⟨b, off, none⟩ := by
        rcases ys with _ | ⟨y, ys⟩
        · rcases hne rfl with h | ⟨b, off, h⟩
          · cases h
          · exact ⟨b, off, by injection h⟩
        · obtain ⟨b, off, e, _⟩ := hr.at_ 0 (by simp)
          exact ⟨b, off, by injection e⟩
      subst hA
      obtain ⟨v', w', h1, h2, h3, h4, h5⟩ := run_append_own_at (P := P) w base t o.type e i z k bytes T.under hi hz hsz hby hzs T.pos v xs.length _ hown ⟨b, off, none⟩ ys.length c (ys.flatMap enc) (flatMap_len E.len ys) (rd_cells E.len T.pos hr rfl) (fun u hu => by
        obtain ⟨y, _, hy⟩ := List.mem_flatMap.1 hu
        exact E.one y u hy) hlen hbytes hbase
      refine ⟨v', w', h1, ?_, h3, ?_, h5⟩
      · unfold OwL; rw [List.length_append, List.flatMap_append]; exact h2
      · rw [h4]; simp [List.length_eq_zero_iff]
  obtain ⟨v', w', hrun, h2, h3, h4, h5⟩ := key
  unfold Oper.wp execOp
  simp only [ho, resolve, invoke, builtin, Sem.run_bind, Sem.run_pure, Result.andThen_ok, List.map_toArray, List.map_cons, List.map_nil, hs, hx, hrun]
  exact h v' w' h2 h3 h4 h5

def rnB (p : Nat → Nat) (l : List Bd) : List Bd := l.map fun b => ⟨(p b.i.toNat : Int), (p b.j.toNat : Int), b.m⟩
theorem rnB_len (p : Nat → Nat) (l : List Bd) : (rnB p l).length = l.length := by simp [rnB]
theorem rnB_take {p : Nat → Nat} {l : List Bd} {k : Nat} (hk : k < l.length) : rnB p (l.take (k + 1)) = rnB p (l.take k) ++ [⟨(p (l.getD k default).i.toNat : Int), (p (l.getD k default).j.toNat : Int), (l.getD k default).m⟩] := by
  unfold rnB
  rw [List.take_succ_eq_append_getElem hk, List.map_append, getD_at hk]; rfl
/-- a list of the same members -/
def SameM (l l' : List Bd) : Prop := l'.length = l.length ∧ ∀ x, x ∈ l' ↔ x ∈ l
theorem SameM.ed {l l' : List Bd} (h : SameM l l') (a b : Nat) (w : Int) : EdB l' a b w ↔ EdB l a b w := by
  constructor
  · rintro ⟨x, hx, h3⟩; exact ⟨x, (h.2 x).1 hx, h3⟩
  · rintro ⟨x, hx, h3⟩; exact ⟨x, (h.2 x).2 hx, h3⟩
theorem rnB_valid {n : Nat} {l l' : List Bd} {p : Nat → Nat} (hp : IsPerm n 0 p) (hv : bvalid n l = true) (h : SameM (rnB p l) l') : bvalid n l' = true := by
  obtain ⟨h1, h2, h3, h4⟩ := bvalid_iff.1 hv
  refine bvalid_iff.2 ⟨h1, h2, by rw [h.1, rnB_len]; exact h3, fun b hb => ?_⟩
  obtain ⟨x, hx, rfl⟩ := List.mem_map.1 ((h.2 b).1 hb)
  obtain ⟨r1, r2, r3, r4, r5, r6⟩ := rightB_iff.1 (h4 x hx)
  have q1 := hp.lt x.i.toNat (by omega)
  have q2 := hp.lt x.j.toNat (by omega)
  exact rightB_iff.2 ⟨by simp only; omega, by simp only; omega, by simp only; omega, by simp only; omega, r5, r6⟩
theorem rnB_renum {n : Nat} {l l' : List Bd} {p : Nat → Nat} (hp : IsPerm n 0 p) (hv : bvalid n l = true) (h : SameM (rnB p l) l') :
    ((tightF n l).isSome = (tightF n l').isSome) ∧ ∀ M M', tightF n l = some M → tightF n l' = some M' → ∀ a b, a < n → b < n → M a b = M' (p a) (p b) := by
  obtain ⟨_, _, _, h4⟩ := bvalid_iff.1 hv
  refine tight_renum hv (rnB_valid hp hv h) hp (fun a b w he => ?_) (fun a b w he => ?_)
  · obtain ⟨x, hx, e1, e2, e3⟩ := he
    refine (h.ed _ _ _).2 ⟨_, List.mem_map.2 ⟨x, hx, rfl⟩, ?_, ?_, e3⟩
    · simp only [e1, Int.toNat_natCast]
    · simp only [e2, Int.toNat_natCast]
  · obtain ⟨y, hy, e1, e2, e3⟩ := (h.ed _ _ _).1 he
    obtain ⟨x, hx, rfl⟩ := List.mem_map.1 hy
    have hr := rightB_iff.1 (h4 x hx)
    simp only at e1 e2 e3
    exact ⟨x.i.toNat, x.j.toNat, by omega, by omega, x, hx, by omega, by omega, e3⟩
theorem rev_same (L : List Bd) : SameM L ((List.range L.length).map fun i => L.getD (L.length - 1 - i) default) := by
  refine ⟨by simp, fun x => ?_⟩
  constructor
  · intro h
    obtain ⟨i, hi, rfl⟩ := List.mem_map.1 h
    have hi := List.mem_range.1 hi
    rw [getD_at (by omega)]
    exact List.getElem_mem _
  · intro h
    obtain ⟨k, hk, rfl⟩ := List.mem_iff_getElem.1 h
    refine List.mem_map.2 ⟨L.length - 1 - k, List.mem_range.2 (by omega), ?_⟩
    rw [getD_at (by omega)]
    congr 1; omega

/-- the slice's header, at its own block -/
theorem one_box1 {w w1 : World} {a : Value} {e1 : TypeId} (h : w.alloc (.cells #[a] e1) = w1) :
    Below w.heap.size w w1 ∧ w1.heap.size = w.heap.size + 1 ∧ w1.cell? ⟨w.heap.size, 0, none⟩ = some a := by
  subst h
  refine ⟨(Below.refl _ _).alloc (Nat.le_refl _) _, by simp, ?_⟩
  go_simp
theorem box3 {w w1 : World} {a b c : Value} {e1 : TypeId} (h : w.alloc (.cells #[a, b, c] e1) = w1) :
    Below w.heap.size w w1 ∧ w1.heap.size = w.heap.size + 1 ∧ w1.cell? ⟨w.heap.size, 0, none⟩ = some a ∧ w1.cell? ⟨w.heap.size, 1, none⟩ = some b ∧ w1.cell? ⟨w.heap.size, 2, none⟩ = some c := by
  subst h
  refine ⟨(Below.refl _ _).alloc (Nat.le_refl _) _, by simp, ?_, ?_, ?_⟩ <;> go_simp

/-- what Reverse leaves: the list's members, in another order -/
theorem reverse_any (v : Value) (base : Nat) (L : List Bd) (w : World) (h : OwL Bd.enc 3 29 w base v L) (hl : L.length ≤ 60) :
    Calls Tryz.prog 17 #[v] w fun e w' => e = .returned (.tuple #[]) ∧ ∃ A c L', v = .slice A L.length c ∧ SameM L L' ∧ RdS Bd.enc 3 w' A L' ∧ Below base w w' := by
  rcases h.form with ⟨rfl, rfl⟩ | ⟨g, cap, rfl, _, _⟩
  · refine (reverse17_nil 0 w).mono ?_
    rintro e w' ⟨rfl, rfl⟩
    exact ⟨rfl, none, 0, [], rfl, ⟨rfl, fun _ => Iff.rfl⟩, RdS.nil, Below.refl _ _⟩
  · refine (reverse17 L.length g cap base _ w (OwL.ows (fun _ => rfl) h) (by omega)).mono ?_
    rintro e w' ⟨rfl, ho, hb⟩
    exact ⟨rfl, _, cap, _, rfl, rev_same L, ho.rd (by omega), hb⟩

/-- the list, renumbered and laid in another order -/
def RenP (p : Nat → Nat) (l : List Bd) (B : Nat) (w w' : World) (v : Value) : Prop := ∃ A c l', v = .slice A l.length c ∧ SameM (rnB p l) l' ∧ RdS Bd.enc 3 w' A l' ∧ Below B w w'

set_option maxRecDepth 100000 in
set_option maxHeartbeats 4000000 in
theorem eventsNumbered_ok (n : Nat) (A : Option Addr) (c : Nat) (l : List Bd) (PA : Option Addr) (pc : Nat) (picks : List Nat) (w : World) (hs : RdS Bd.enc 3 w A l) (hpk : RdS encB 1 w PA picks) (hx : ∀ x ∈ picks, x < 256) (hv : bvalid n l = true) (hl : l.length ≤ 60) :
    Calls Tryz.prog 3 #[.int .i64 n, .slice A l.length c, .slice PA picks.length pc] w (TruP w) := by
  have HS := Lib.hid hs; have HV := Lib.hid hv; have HPK := Lib.hid hpk; have HX := Lib.hid hx
  have hlz : ¬ (60 : Int) < (l.length : Int) := by omega
  have hn24 := (bvalid_iff.1 hv).2.1
  have hrt := (bvalid_iff.1 hv).2.2.2
  have HRT := Lib.hid hrt
  clear hs hv hpk hx hrt
  have HPI := Lib.hid (permF_is n 0 picks)
  go_enter Tryz.func3, Tryz.ntmps3
  go_wp2_with fail
  refine (timesAwake_any w).mono ?_
  rintro e w1 ⟨rfl, hb1⟩
  have HS1 := Lib.hid (HS.out.below hb1)
  have HPK1 := Lib.hid (HPK.out.below hb1)
  have HB1 := Lib.hid hb1
  clear hb1 HS HPK
  go_wp2_with fail
  have hval := bvalid_any n A c l w1 HS1.out
  rw [HV.out] at hval
  refine hval.mono ?_
  rintro e w2 ⟨rfl, hb2⟩
  have HS2 := Lib.hid (HS1.out.below hb2)
  have HPK2 := Lib.hid (HPK1.out.below hb2)
  have HB2 := Lib.hid (HB1.out.trans (hb2.mono HB1.out.size))
  clear hb2 HS1 HB1 hval HPK1
  go_wp2_with fail
  refine (permuted_any n 0 PA pc picks w2 HPK2.out HX.out (by omega) (by omega)).mono ?_
  rintro e w3 ⟨g, rfl, harr, hb3⟩
  have HA3 := Lib.hid harr
  have HS3 := Lib.hid (HS2.out.below hb3)
  have HB3 := Lib.hid (HB2.out.trans (hb3.mono HB2.out.size))
  clear harr hb3 HS2 HPK2 HB2
  generalize permF n 0 picks = p at *
  go_wp2
  obtain ⟨w4, hw4⟩ : ∃ w4 : World, w3.alloc (.cells #[.slice (some ⟨g, 0, none⟩) n n] 26) = w4 := ⟨_, rfl⟩
  obtain ⟨hB4, hz4, k4⟩ := one_box1 hw4
  rw [hw4]
  clear hw4
  have HA4 := Lib.hid (HA3.out.below hB4)
  have HS4 := Lib.hid (HS3.out.below hB4)
  have HB4 := Lib.hid (HB3.out.trans (hB4.mono HB3.out.size))
  have hlz4 : w3.heap.size < w4.heap.size := by omega
  have HK4 := Lib.hid k4
  clear hB4 HA3 HS3 HB3 k4 hz4
  go_wp2
  go_loopg [8, 35] l.length (fun gg s8 s35 wr => ∃ (k : Nat) (v : Value), k ≤ l.length ∧ l.length - k ≤ gg ∧ s35 = .int .i64 (k : Int) ∧ v = s8 ∧ Aside (OwL Bd.enc 3 29 wr w4.heap.size v (rnB p (l.take k))) ∧ Aside (Below w4.heap.size w4 wr))
  case atStart => exact ⟨0, _, by omega, by omega, rfl, rfl, OwL.nil, Below.refl _ _⟩
  case round =>
    obtain ⟨k, v1, hk, hg, rfl, rfl, HO, HB⟩ := hrel
    by_cases hlt : k < l.length
    · have hltz : (k : Int) < (l.length : Int) := by omega
      have ht := rnB_take (p := p) hlt
      have hlen : (rnB p (l.take k)).length ≤ 60 := by rw [rnB_len]; simp; omega
      obtain ⟨b, off, rfl, hb, c0, c1, c2⟩ := (HS4.out.below HB.out).atB hlt
      have hr := rightB_iff.1 (HRT.out (l.getD k default) (by rw [getD_at hlt]; exact List.getElem_mem hlt))
      generalize l.getD k default = x at *
      obtain ⟨x0, x1, x2⟩ := x
      simp only at c0 c1 c2 hr ht
      obtain ⟨i, rfl⟩ : ∃ i : Nat, x0 = i := ⟨x0.toNat, by omega⟩
      obtain ⟨j, rfl⟩ : ∃ j : Nat, x1 = j := ⟨x1.toNat, by omega⟩
      simp only [Int.toNat_natCast] at ht
      have hin : i < n := by omega
      have hjn : j < n := by omega
      have hinz : (i : Int) < (n : Int) := by omega
      have hjnz : (j : Int) < (n : Int) := by omega
      have HT := Lib.hid ht
      have HB' := Lib.hid HB.out; have HO' := Lib.hid HO.out
      clear HB HO ht hr
      go_wp2_with fail
      obtain ⟨w5, hw5⟩ : ∃ w5 : World, wr.alloc (.cells #[.int .i64 (i : Int), .int .i64 (j : Int), .int .i64 x2] 29) = w5 := ⟨_, rfl⟩
      obtain ⟨hB5, hz5, d0, d1, d2⟩ := box3 hw5
      rw [hw5]
      clear hw5 c0 c1 c2
      have hBC := HB'.out.trans (hB5.mono HB'.out.size)
      have e7 := (hBC.cell (p := ⟨w3.heap.size, 0, none⟩) hlz4).trans HK4.out
      have hA5 := HA4.out.below hBC
      have ei : w5.cell? ⟨g, i, none⟩ = some (.int .i64 (p i : Int)) := hA5.cell i hin
      have ej : w5.cell? ⟨g, j, none⟩ = some (.int .i64 (p j : Int)) := hA5.cell j hjn
      have l1 : w3.heap.size < w5.heap.size := by have := hBC.size; omega
      have l2 : g < w5.heap.size := hA5.lt
      have l3 : wr.heap.size < w5.heap.size := by omega
      have hown0 := HO'.out
      have HO5 := Lib.hid (HO'.out.below hB5)
      have HB5 := Lib.hid hBC
      clear hBC hA5 hB5 HB' HO' hz5
      have hal : ∀ q, v1.ownBlock = some q → w4.heap.size ≤ q ∧ q < wr.heap.size := OwL.lt hown0
      have ag : v1.ownBlock ≠ some w3.heap.size := fun e => by have := hal _ e; omega
      have ak : v1.ownBlock ≠ some g := fun e => by have := hal _ e; have := HA4.out.lt; omega
      have ab : v1.ownBlock ≠ some wr.heap.size := fun e => by have := hal _ e; omega
      have hi0 : (0 : Int) ≤ (i : Int) := Int.natCast_nonneg _
      have hj0 : (0 : Int) ≤ (j : Int) := Int.natCast_nonneg _
      have HRD := Lib.hid (show RdS Bd.enc 3 (w5.alloc (.cells #[.int .i64 (p i : Int), .int .i64 (p j : Int), .int .i64 x2] 29)).drew (some ⟨w5.heap.size, 0, none⟩) [⟨(p i : Int), (p j : Int), x2⟩] from
        ⟨(rd_one (enc := Bd.enc) (k := 3) w5 ⟨(p i : Int), (p j : Int), x2⟩ 29).len, (rd_one (enc := Bd.enc) (k := 3) w5 ⟨(p i : Int), (p j : Int), x2⟩ 29).cells⟩)
      have HO6 := Lib.hid (show OwL Bd.enc 3 29 (w5.alloc (.cells #[.int .i64 (p i : Int), .int .i64 (p j : Int), .int .i64 x2] 29)).drew w4.heap.size v1 (rnB p (l.take k)) from OwL.drew (OwL.alloc HO5.out _))
      have HBA := Lib.hid (fun (w7 : World) (hgrow : (w5.alloc (.cells #[.int .i64 (p i : Int), .int .i64 (p j : Int), .int .i64 x2] 29)).drew.grownBy w7 v1.ownBlock) =>
        show Below w4.heap.size w4 w7 from ((HB5.out.alloc HB5.out.size (.cells #[.int .i64 (p i : Int), .int .i64 (p j : Int), .int .i64 x2] 29)).drew).grown hgrow (by have := HB5.out.size; simp; omega) (fun q hq => (hal q hq).1))
      have hsz5 := HB5.out.size
      go_region_held3 (fun w' => w'.cell? ⟨w3.heap.size, 0, none⟩ = some (.slice (some ⟨g, 0, none⟩) n n) ∧ w'.cell? ⟨g, i, none⟩ = some (.int .i64 (p i : Int)) ∧ w'.cell? ⟨g, j, none⟩ = some (.int .i64 (p j : Int)) ∧
          w'.cell? ⟨wr.heap.size, 0, none⟩ = some (.int .i64 (i : Int)) ∧ w'.cell? ⟨wr.heap.size, 1, none⟩ = some (.int .i64 (j : Int)) ∧ w'.cell? ⟨wr.heap.size, 2, none⟩ = some (.int .i64 x2))
        (first
          | go_keep
          | (go_split_ands
             refine ⟨?_, ?_, ?_, ?_, ?_, ?_⟩
             · (rw [hgrow.cell_far _ (by simp; omega) (Ne.symm ag)]; assumption)
             · (rw [hgrow.cell_far _ (by simp; omega) (Ne.symm ak)]; assumption)
             · (rw [hgrow.cell_far _ (by simp; omega) (Ne.symm ak)]; assumption)
             · (rw [hgrow.cell_far _ (by simp; omega) (Ne.symm ab)]; assumption)
             · (rw [hgrow.cell_far _ (by simp; omega) (Ne.symm ab)]; assumption)
             · (rw [hgrow.cell_far _ (by simp; omega) (Ne.symm ab)]; assumption)))
        ((refine step_app (enc := Bd.enc) (k := 3) (e := 29) (base := w4.heap.size) (v := v1) (xs := rnB p (l.take k)) (ys := [⟨(p i : Int), (p j : Int), x2⟩]) (A := some ⟨w5.heap.size, 0, none⟩) (c := 1) (by rfl) _ _ 22 (by rfl) elT24 enc24 (by rfl) HO6.out (by rfl) HRD.out (fun h => by cases h) (by simp <;> omega) (by decide) (by simp <;> omega) ?_; intro v' w7 hown' hgrow hnil hat))
      have HOW := Lib.hid hown'
      have HBX := Lib.hid (HBA.out _ hgrow)
      clear hown' hgrow hnil hat HBA HO6 HRD
      go_wp2
      go_roundg (l.length - (k + 1))
      case measure => omega
      case rel => exact ⟨k + 1, _, by omega, by omega, by go_num, rfl, by rw [HT.out]; exact HOW.out, HBX.out⟩
    · obtain rfl : k = l.length := by omega
      have hltz : ¬ ((l.length : Nat) : Int) < (l.length : Int) := by omega
      have ho := HO.out
      rw [List.take_length] at ho
      have hb4 := HB.out
      clear HO HB
      have HRV := Lib.hid (reverse_any v1 w4.heap.size (rnB p l) wr ho (by rw [rnB_len]; omega))
      have HB5 := Lib.hid hb4
      clear ho hb4
      go_wp2_with fail
      refine HRV.out.mono ?_
      rintro e w5 ⟨rfl, A2, c2, l', rfl, hsm, hr, hb⟩
      have hlen' : l'.length = l.length := by rw [hsm.1, rnB_len]
      rw [rnB_len]
      have HC5 := Lib.hid (HB5.out.trans hb)
      have HR5 := Lib.hid hr
      have HV' := Lib.hid (rnB_valid HPI.out HV.out hsm)
      obtain ⟨hss, hmm⟩ := rnB_renum HPI.out HV.out hsm
      have HLN := Lib.hid hlen'
      clear hb hr HRV HB5 hlen' hsm
      cases h1 : tightF n l with
      | none =>
        have h2 : tightF n l' = none := by rw [h1] at hss; simpa using hss
        have H1 := Lib.hid h1; have H2 := Lib.hid h2
        clear h1 h2 hss hmm
        go_wp2_with fail
        refine (Tight_no (c := c) (HS4.out.below HC5.out) HV.out H1.out).mono ?_
        rintro e w6 ⟨rfl, hb⟩
        have HC6 := Lib.hid (HC5.out.trans (hb.mono HC5.out.size))
        have HR6 := Lib.hid (HR5.out.below hb)
        clear hb HC5 HR5
        go_wp2_with fail
        have hc := Tight_no (c := c2) HR6.out HV'.out H2.out
        rw [HLN.out] at hc
        refine (hc).mono ?_
        rintro e w7 ⟨rfl, hb⟩
        have HC7 := Lib.hid (HC6.out.trans (hb.mono HC6.out.size))
        have HR7 := Lib.hid (HR6.out.below hb)
        clear hc
        clear hb HC6 HR6
        go_wp2_with fail
        have hc := Consistent_any (c := c) (HS4.out.below HC7.out) HV.out
        rw [H1.out] at hc
        simp only [Option.isSome_none] at hc
        refine (hc).mono ?_
        rintro e w8 ⟨rfl, hb⟩
        have HC8 := Lib.hid (HC7.out.trans (hb.mono HC7.out.size))
        have HR8 := Lib.hid (HR7.out.below hb)
        clear hc
        clear hb HC7 HR7
        go_wp2_with fail
        have hc := Consistent_any (c := c2) HR8.out HV'.out
        rw [HLN.out, H2.out] at hc
        simp only [Option.isSome_none] at hc
        refine (hc).mono ?_
        rintro e w9 ⟨rfl, hb⟩
        have HC9 := Lib.hid (HC8.out.trans (hb.mono HC8.out.size))
        have HR9 := Lib.hid (HR8.out.below hb)
        clear hc
        clear hb HC8 HR8
        go_wp2_with fail
        refine (sameMatrix_nil (.func (.func 21) #[] #[.pointer (some ⟨w3.heap.size, 0, none⟩)]) w9).mono ?_
        rintro e w10 ⟨rfl, rfl⟩
        go_wp2
        go_ret
        exact ⟨ret_bool (by simp), HB4.out.trans (HC9.out.mono HB4.out.size)⟩
      | some M =>
        obtain ⟨M', h2⟩ : ∃ M', tightF n l' = some M' := by rw [h1] at hss; exact Option.isSome_iff_exists.1 (by rw [← hss]; rfl)
        have H1 := Lib.hid h1; have H2 := Lib.hid h2
        have HMM := Lib.hid (hmm M M' h1 h2)
        clear h1 h2 hss hmm
        go_wp2_with fail
        refine (Tight_yes (c := c) (HS4.out.below HC5.out) HV.out H1.out).mono ?_
        rintro e w6 ⟨bm, rb, cp, rfl, hm, hb⟩
        have HC6 := Lib.hid (HC5.out.trans (hb.mono HC5.out.size))
        have HR6 := Lib.hid (HR5.out.below hb)
        have HM6 := Lib.hid hm
        clear hm
        clear hb HC5 HR5
        go_wp2_with fail
        have hc := Tight_yes (c := c2) HR6.out HV'.out H2.out
        rw [HLN.out] at hc
        refine (hc).mono ?_
        rintro e w7 ⟨bm2, rb2, cp2, rfl, hm, hb⟩
        have HC7 := Lib.hid (HC6.out.trans (hb.mono HC6.out.size))
        have HR7 := Lib.hid (HR6.out.below hb)
        have HN7 := Lib.hid hm
        have HM7 := Lib.hid (HM6.out.below hb)
        clear hc hm HM6
        clear hb HC6 HR6
        go_wp2_with fail
        have hc := Consistent_any (c := c) (HS4.out.below HC7.out) HV.out
        rw [H1.out] at hc
        simp only [Option.isSome_some] at hc
        refine (hc).mono ?_
        rintro e w8 ⟨rfl, hb⟩
        have HC8 := Lib.hid (HC7.out.trans (hb.mono HC7.out.size))
        have HR8 := Lib.hid (HR7.out.below hb)
        have HN8 := Lib.hid (HN7.out.below hb)
        have HM8 := Lib.hid (HM7.out.below hb)
        clear hc HN7 HM7
        clear hb HC7 HR7
        go_wp2_with fail
        have hc := Consistent_any (c := c2) HR8.out HV'.out
        rw [HLN.out, H2.out] at hc
        simp only [Option.isSome_some] at hc
        refine (hc).mono ?_
        rintro e w9 ⟨rfl, hb⟩
        have HC9 := Lib.hid (HC8.out.trans (hb.mono HC8.out.size))
        have HR9 := Lib.hid (HR8.out.below hb)
        have HN9 := Lib.hid (HN8.out.below hb)
        have HM9 := Lib.hid (HM8.out.below hb)
        clear hc HN8 HM8
        clear hb HC8 HR8
        have hsame := sameMatrix_yes 21 #[.pointer (some ⟨w3.heap.size, 0, none⟩)] (enters_of Tryz.func21 (by kernel_rfl) rfl) n n n _ _ bm bm2 rb cp rb2 cp2 M M' (fun i j => p i) (fun i j => p j) w9 HM9.out HN9.out
          (fun i j hi hj W hW => by
            have hbw := HC9.out.trans (hW.mono HC9.out.size)
            exact numbered1_any n w3.heap.size g n _ p i j hi hj W (by have := hbw.size; omega) ((hbw.cell (p := ⟨w3.heap.size, 0, none⟩) hlz4).trans HK4.out) (HA4.out.below hbw)) (by omega)
          (fun i j hi hj => ⟨HPI.out.lt i hi, HPI.out.lt j hj, HMM.out i j hi hj⟩)
        have HSA := Lib.hid hsame
        clear hsame
        go_wp2_with fail
        refine HSA.out.mono ?_
        rintro e w10 ⟨rfl, hb⟩
        have HC10 := Lib.hid (HC9.out.trans (hb.mono HC9.out.size))
        clear hb HC9 HSA
        go_wp2
        go_ret
        exact ⟨ret_bool (by simp), HB4.out.trans (HC10.out.mono HB4.out.size)⟩

theorem eventsNumbered_any (n : Int) (A : Option Addr) (c : Nat) (l : List Bd) (PA : Option Addr) (pc : Nat) (picks : List Nat) (w : World) (hs : RdS Bd.enc 3 w A l) (hpk : RdS encB 1 w PA picks) (hx : ∀ x ∈ picks, x < 256) :
    Calls Tryz.prog 3 #[.int .i64 n, .slice A l.length c, .slice PA picks.length pc] w (TruP w) := by
  by_cases hl : l.length ≤ 60
  · by_cases hv : bvalid n l = true
    · obtain ⟨m, rfl⟩ : ∃ m : Nat, n = m := ⟨n.toNat, by have := (bvalid_iff.1 hv).1; omega⟩
      exact eventsNumbered_ok m A c l PA pc picks w hs hpk hx hv hl
    · have HS := Lib.hid hs
      have HV := Lib.hid (show bvalid n l = false by simpa using hv)
      have hlz : ¬ (60 : Int) < (l.length : Int) := by omega
      clear hs hv hpk hx
      go_enter Tryz.func3, Tryz.ntmps3
      go_wp2_with fail
      refine (timesAwake_any w).mono ?_
      rintro e w1 ⟨rfl, hb1⟩
      have hval := bvalid_any n A c l w1 (HS.out.below hb1)
      rw [HV.out] at hval
      have HB1 := Lib.hid hb1
      clear hb1 HS
      go_wp2_with fail
      refine hval.mono ?_
      rintro e w2 ⟨rfl, hb2⟩
      have HB2 := Lib.hid (HB1.out.trans (hb2.mono HB1.out.size))
      clear hb2 HB1 hval
      go_wp2
      go_ret
      exact ⟨rfl, HB2.out⟩
  · have hlz : (60 : Int) < (l.length : Int) := by omega
    clear hs hpk hx
    go_enter Tryz.func3, Tryz.ntmps3
    go_wp2_with fail
    refine (timesAwake_any w).mono ?_
    rintro e w1 ⟨rfl, hb1⟩
    have HB1 := Lib.hid hb1
    clear hb1
    go_wp2
    go_ret
    exact ⟨rfl, HB1.out⟩
end Go.Proofs.YthilkphnjffnhaaGreat
