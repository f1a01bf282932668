/- slices.Equal, of spans and of whole numbers. -/
import Derived.Test.YthilkphnjffnhaaGreatOf
set_option linter.unusedSimpArgs false
set_option linter.unusedVariables false
namespace Go.Proofs.YthilkphnjffnhaaGreat
open Go.RowKit Go.Shelf

theorem sp_eq_iff {x y : Sp} : x = y ↔ x.a = y.a ∧ x.b = y.b := by
  obtain ⟨a, b⟩ := x; obtain ⟨c, d⟩ := y; simp
instance instDecSp : DecidableEq Sp := fun x y => decidable_of_iff (x.a = y.a ∧ x.b = y.b) sp_eq_iff.symm

theorem RdS.s2 {w : World} {A : Option Addr} {l : List Sp} (h : RdS Sp.enc 2 w A l) {i : Nat} (hi : i < l.length) :
    ∃ b off, A = some ⟨b, off, none⟩ ∧ b < w.heap.size ∧ w.cell? ⟨b, off + i * 2, none⟩ = some (.int .i64 l[i].a) ∧ w.cell? ⟨b, off + i * 2 + 1, none⟩ = some (.int .i64 l[i].b) := by
  obtain ⟨b, off, e, hb, hc⟩ := h.cells i l[i] (List.getElem?_eq_getElem hi)
  exact ⟨b, off, e, hb, hc 0 _ rfl, hc 1 _ rfl⟩
theorem RdS.s1 {w : World} {A : Option Addr} {l : List Int} (h : RdS encI 1 w A l) {i : Nat} (hi : i < l.length) :
    ∃ b off, A = some ⟨b, off, none⟩ ∧ b < w.heap.size ∧ w.cell? ⟨b, off + i, none⟩ = some (.int .i64 l[i]) := by
  obtain ⟨b, off, e, hb, hc⟩ := h.cells i l[i] (List.getElem?_eq_getElem hi)
  exact ⟨b, off, e, hb, by have := hc 0 _ rfl; simpa using this⟩
theorem eq_of_all {α : Type} {a b : List α} (hl : a.length = b.length) (h : ∀ (i : Nat) (h1 : i < a.length) (h2 : i < b.length), a[i] = b[i]) : a = b := List.ext_getElem hl fun i h1 h2 => h i h1 h2

set_option maxRecDepth 100000 in
set_option maxHeartbeats 4000000 in
theorem equal41 (A B : Option Addr) (c d : Nat) (a b : List Sp) (w : World) (hA : RdS Sp.enc 2 w A a) (hB : RdS Sp.enc 2 w B b) :
    Calls Tryz.prog 41 #[.slice A a.length c, .slice B b.length d] w fun e w' => e = .returned (.bool (decide (a = b))) ∧ Below w.heap.size w w' := by
  by_cases hn : a.length = b.length
  · have hnz : (a.length : Int) = (b.length : Int) := by omega
    have hln := hA.len
    have HA := Lib.hid hA; clear hA
    have HB := Lib.hid hB; clear hB
    have HN := Lib.hid hn; clear hn
    go_enter Tryz.func41, Tryz.ntmps41
    go_wp2
    go_loopg [5, 13] a.length (fun gg _ s13 wr => ∃ k : Nat, k ≤ a.length ∧ a.length - k ≤ gg ∧ s13 = .int .i64 k ∧ Aside (Below w.heap.size w wr) ∧ Aside (∀ (i : Nat) (h1 : i < a.length) (h2 : i < b.length), i < k → a[i] = b[i]))
    case atStart => exact ⟨0, Nat.zero_le _, by omega, rfl, Below.refl _ _, (show Aside _ from fun i _ _ h => absurd h (Nat.not_lt_zero _))⟩
    case round =>
      obtain ⟨k, hk, hg, rfl, HW, HE⟩ := hrel
      by_cases hlt : k < a.length
      · have hltz : (k : Int) < (a.length : Int) := by omega
        have hltb : k < b.length := by have := HN.out; omega
        have hltbz : (k : Int) < (b.length : Int) := by omega
        obtain ⟨b1, o1, rfl, hb1, c0, c1⟩ := (HA.out.below HW).s2 hlt
        obtain ⟨b2, o2, rfl, hb2, d0, d1⟩ := (HB.out.below HW).s2 hltb
        have hx : a[k] = b[k] ↔ a[k].a = b[k].a ∧ a[k].b = b[k].b := sp_eq_iff
        have hne : a[k] ≠ b[k] → a ≠ b := fun h e => h (by subst e; rfl)
        obtain ⟨xa, xb, hxx⟩ : ∃ xa xb, a[k] = ⟨xa, xb⟩ := ⟨_, _, rfl⟩
        obtain ⟨ya, yb, hyy⟩ : ∃ ya yb, b[k] = ⟨ya, yb⟩ := ⟨_, _, rfl⟩
        have hstep : a[k] = b[k] → ∀ (i : Nat) (h1 : i < a.length) (h2 : i < b.length), i < k + 1 → a[i] = b[i] := fun h i h1 h2 h3 => by
          by_cases e : i = k
          · subst e; exact h
          · exact HE i h1 h2 (by omega)
        rw [hxx] at c0 c1
        rw [hyy] at d0 d1
        rw [hxx, hyy] at hx hne hstep
        simp only at c0 c1 d0 d1 hx
        have HX := Lib.hid hx; have HNE := Lib.hid hne; have HST := Lib.hid hstep
        have HW' := Lib.hid HW
        clear hx hne hstep hxx hyy HW HE
        by_cases e1 : xa = ya
        · by_cases e2 : xb = yb
          · have HS2 := Lib.hid (HST.out (HX.out.2 ⟨e1, e2⟩))
            clear HX HNE HST
            subst e1 e2
            go_wp2
            go_quiet (fail)
            go_wp2
            go_roundg (a.length - (k + 1))
            case measure => omega
            case rel => exact ⟨k + 1, by omega, by omega, by go_num, below_drewN HW'.out _, HS2.out⟩
          · have HS2 := Lib.hid (HNE.out (fun h => e2 (HX.out.1 h).2))
            clear HX HNE HST
            subst e1
            go_wp2
            go_quiet (fail)
            go_wp2
            go_ret
            exact ⟨ret_bool (by rw [decide_eq_false HS2.out]), below_drewN HW'.out _⟩
        · have HS2 := Lib.hid (HNE.out (fun h => e1 (HX.out.1 h).1))
          clear HX HNE HST
          go_wp2
          go_quiet (fail)
          go_wp2
          go_ret
          exact ⟨ret_bool (by rw [decide_eq_false HS2.out]), below_drewN HW'.out _⟩
      · have hltz : ¬ (k : Int) < (a.length : Int) := by omega
        obtain rfl : a.length = k := by omega
        have he := eq_of_all HN.out (fun i h1 h2 => HE i h1 h2 h1)
        have HQ := Lib.hid he
        clear he HE
        go_wp2
        go_ret
        exact ⟨ret_bool (by rw [decide_eq_true HQ.out]), HW⟩
  · have hnz : ¬ (a.length : Int) = (b.length : Int) := by omega
    have HQ := Lib.hid (show ¬ a = b from fun e => hn (by rw [e]))
    clear hA hB hn
    go_enter Tryz.func41, Tryz.ntmps41
    go_wp2
    go_ret
    exact ⟨ret_bool (by rw [decide_eq_false HQ.out]), Below.refl _ _⟩
set_option maxRecDepth 100000 in
set_option maxHeartbeats 4000000 in
theorem equal37 (A B : Option Addr) (c d : Nat) (a b : List Int) (w : World) (hA : RdS encI 1 w A a) (hB : RdS encI 1 w B b) :
    Calls Tryz.prog 37 #[.slice A a.length c, .slice B b.length d] w fun e w' => e = .returned (.bool (decide (a = b))) ∧ Below w.heap.size w w' := by
  by_cases hn : a.length = b.length
  · have hnz : (a.length : Int) = (b.length : Int) := by omega
    have hln := hA.len
    have HA := Lib.hid hA; clear hA
    have HB := Lib.hid hB; clear hB
    have HN := Lib.hid hn; clear hn
    go_enter Tryz.func37, Tryz.ntmps37
    go_wp2
    go_loopg [5, 13] a.length (fun gg _ s13 wr => ∃ k : Nat, k ≤ a.length ∧ a.length - k ≤ gg ∧ s13 = .int .i64 k ∧ Aside (Below w.heap.size w wr) ∧ Aside (∀ (i : Nat) (h1 : i < a.length) (h2 : i < b.length), i < k → a[i] = b[i]))
    case atStart => exact ⟨0, Nat.zero_le _, by omega, rfl, Below.refl _ _, (show Aside _ from fun i _ _ h => absurd h (Nat.not_lt_zero _))⟩
    case round =>
      obtain ⟨k, hk, hg, rfl, HW, HE⟩ := hrel
      by_cases hlt : k < a.length
      · have hltz : (k : Int) < (a.length : Int) := by omega
        have hltb : k < b.length := by have := HN.out; omega
        have hltbz : (k : Int) < (b.length : Int) := by omega
        obtain ⟨b1, o1, rfl, hb1, c0⟩ := (HA.out.below HW).s1 hlt
        obtain ⟨b2, o2, rfl, hb2, d0⟩ := (HB.out.below HW).s1 hltb
        have hne : a[k] ≠ b[k] → a ≠ b := fun h e => h (by subst e; rfl)
        obtain ⟨xa, hxx⟩ : ∃ xa, a[k] = xa := ⟨_, rfl⟩
        obtain ⟨ya, hyy⟩ : ∃ ya, b[k] = ya := ⟨_, rfl⟩
        have hstep : a[k] = b[k] → ∀ (i : Nat) (h1 : i < a.length) (h2 : i < b.length), i < k + 1 → a[i] = b[i] := fun h i h1 h2 h3 => by
          by_cases e : i = k
          · subst e; exact h
          · exact HE i h1 h2 (by omega)
        rw [hxx] at c0
        rw [hyy] at d0
        rw [hxx, hyy] at hne hstep
        have HNE := Lib.hid hne; have HST := Lib.hid hstep
        have HW' := Lib.hid HW
        clear hne hstep hxx hyy HW HE
        by_cases e1 : xa = ya
        · have HS2 := Lib.hid (HST.out e1)
          clear HNE HST
          subst e1
          go_wp2
          go_quiet (fail)
          go_wp2
          go_roundg (a.length - (k + 1))
          case measure => omega
          case rel => exact ⟨k + 1, by omega, by omega, by go_num, below_drewN HW'.out _, HS2.out⟩
        · have HS2 := Lib.hid (HNE.out e1)
          clear HNE HST
          go_wp2
          go_quiet (fail)
          go_wp2
          go_ret
          exact ⟨ret_bool (by rw [decide_eq_false HS2.out]), below_drewN HW'.out _⟩
      · have hltz : ¬ (k : Int) < (a.length : Int) := by omega
        obtain rfl : a.length = k := by omega
        have he := eq_of_all HN.out (fun i h1 h2 => HE i h1 h2 h1)
        have HQ := Lib.hid he
        clear he HE
        go_wp2
        go_ret
        exact ⟨ret_bool (by rw [decide_eq_true HQ.out]), HW⟩
  · have hnz : ¬ (a.length : Int) = (b.length : Int) := by omega
    have HQ := Lib.hid (show ¬ a = b from fun e => hn (by rw [e]))
    clear hA hB hn
    go_enter Tryz.func37, Tryz.ntmps37
    go_wp2
    go_ret
    exact ⟨ret_bool (by rw [decide_eq_false HQ.out]), Below.refl _ _⟩
end Go.Proofs.YthilkphnjffnhaaGreat
