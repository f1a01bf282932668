/- WholeTimeReversed. -/
import Derived.Test.YthilkphnjffnhaaGreatTmw
import Derived.Test.YthilkphnjffnhaaGreatSame
import Derived.Test.YthilkphnjffnhaaGreatOpn
set_option linter.unusedSimpArgs false
set_option linter.unusedVariables false
namespace Go.Proofs.YthilkphnjffnhaaGreat
open Go.RowKit Go.Shelf

theorem RdS.atB {w : World} {A : Option Addr} {l : List Bd} (h : RdS Bd.enc 3 w A l) {i : Nat} (hi : i < l.length) :
    ∃ b off, A = some ⟨b, off, none⟩ ∧ b < w.heap.size ∧ w.cell? ⟨b, off + i * 3, none⟩ = some (.int .i64 (l.getD i default).i) ∧ w.cell? ⟨b, off + i * 3 + 1, none⟩ = some (.int .i64 (l.getD i default).j) ∧
      w.cell? ⟨b, off + i * 3 + 2, none⟩ = some (.int .i64 (l.getD i default).m) := by
  rw [getD_at hi]
  obtain ⟨b, off, e, hb, hc⟩ := h.cells i l[i] (List.getElem?_eq_getElem hi)
  exact ⟨b, off, e, hb, hc 0 _ rfl, hc 1 _ rfl, hc 2 _ rfl⟩

def revB (l : List Bd) : List Bd := l.map fun b => ⟨b.j, b.i, b.m⟩
theorem revB_len (l : List Bd) : (revB l).length = l.length := by simp [revB]
theorem revB_take {l : List Bd} {k : Nat} (hk : k < l.length) : revB (l.take (k + 1)) = revB (l.take k) ++ [⟨(l.getD k default).j, (l.getD k default).i, (l.getD k default).m⟩] := by
  unfold revB
  rw [List.take_succ_eq_append_getElem hk, List.map_append, getD_at hk]; rfl
theorem revB_ed (l : List Bd) (a b : Nat) (w : Int) : EdB l a b w ↔ EdB (revB l) b a w := by
  constructor
  · rintro ⟨x, hx, h1, h2, h3⟩
    exact ⟨⟨x.j, x.i, x.m⟩, List.mem_map.2 ⟨x, hx, rfl⟩, h2, h1, h3⟩
  · rintro ⟨y, hy, h1, h2, h3⟩
    obtain ⟨x, hx, rfl⟩ := List.mem_map.1 hy
    exact ⟨x, hx, h2, h1, h3⟩
theorem revB_valid {n : Int} {l : List Bd} (hv : bvalid n l = true) : bvalid n (revB l) = true := by
  obtain ⟨h1, h2, h3, h4⟩ := bvalid_iff.1 hv
  refine bvalid_iff.2 ⟨h1, h2, by rw [revB_len]; exact h3, fun b hb => ?_⟩
  obtain ⟨x, hx, rfl⟩ := List.mem_map.1 hb
  have := rightB_iff.1 (h4 x hx)
  exact rightB_iff.2 ⟨this.2.2.1, this.2.2.2.1, this.1, this.2.1, this.2.2.2.2⟩

/-- the law's answer -/
def TruP (w : World) (e : Ending) (w' : World) : Prop := e = .returned (.bool true) ∧ Below w.heap.size w w'

set_option maxRecDepth 100000 in
set_option maxHeartbeats 4000000 in
theorem timeReversed_ok (n : Nat) (A : Option Addr) (c : Nat) (l : List Bd) (i j : Int) (w : World) (hs : RdS Bd.enc 3 w A l) (hv : bvalid n l = true) (hl : l.length ≤ 60) :
    Calls Tryz.prog 4 #[.int .i64 n, .slice A l.length c, .int .i64 i, .int .i64 j] w (TruP w) := by
  have HS := Lib.hid hs; have HV := Lib.hid hv
  have HRV := Lib.hid (revB_valid hv)
  have hlz : ¬ (60 : Int) < (l.length : Int) := by omega
  clear hs hv
  go_enter Tryz.func4, Tryz.ntmps4
  go_wp2_with fail
  refine (timesAwake_any w).mono ?_
  rintro e w1 ⟨rfl, hb1⟩
  have HS1 := Lib.hid (HS.out.below hb1)
  have HB1 := Lib.hid hb1
  clear hb1 HS
  go_wp2_with fail
  have hval := bvalid_any n A c l w1 HS1.out
  rw [HV.out] at hval
  refine hval.mono ?_
  rintro e w2 ⟨rfl, hb2⟩
  have HS2 := Lib.hid (HS1.out.below hb2)
  have HB2 := Lib.hid (HB1.out.trans (hb2.mono HB1.out.size))
  clear hb2 HS1 HB1 hval
  go_wp2
  go_loopg [9, 35] l.length (fun gg s9 s35 wr => ∃ (k : Nat) (v : Value), k ≤ l.length ∧ l.length - k ≤ gg ∧ s35 = .int .i64 (k : Int) ∧ v = s9 ∧ Aside (OwL Bd.enc 3 29 wr w2.heap.size v (revB (l.take k))) ∧ Aside (Below w2.heap.size w2 wr))
  case atStart => exact ⟨0, _, by omega, by omega, rfl, rfl, OwL.nil, Below.refl _ _⟩
  case round =>
    obtain ⟨k, v1, hk, hg, rfl, rfl, HO, HB⟩ := hrel
    by_cases hlt : k < l.length
    · have hltz : (k : Int) < (l.length : Int) := by omega
      have HT := Lib.hid (revB_take hlt)
      have hlen : (revB (l.take k)).length ≤ 60 := by rw [revB_len]; simp; omega
      obtain ⟨b, off, rfl, hb, c0, c1, c2⟩ := (HS2.out.below HB.out).atB hlt
      generalize l.getD k default = x at *
      obtain ⟨x0, x1, x2⟩ := x
      simp only at c0 c1 c2
      have HB' := Lib.hid HB.out; have HO' := Lib.hid HO.out
      clear HB HO
      have HRD := Lib.hid (show RdS Bd.enc 3 ((wr.alloc (.cells #[.int .i64 x0, .int .i64 x1, .int .i64 x2] 29)).alloc (.cells #[.int .i64 x1, .int .i64 x0, .int .i64 x2] 29)) (some ⟨wr.heap.size + 1, 0, none⟩) [⟨x1, x0, x2⟩] by
        rw [show wr.heap.size + 1 = (wr.alloc (.cells #[.int .i64 x0, .int .i64 x1, .int .i64 x2] 29)).heap.size by simp]
        exact rd_one (enc := Bd.enc) (k := 3) (wr.alloc (.cells #[.int .i64 x0, .int .i64 x1, .int .i64 x2] 29)) ⟨x1, x0, x2⟩ 29)
      have HBA := Lib.hid (HB'.out.alloc HB'.out.size (.cells #[.int .i64 x0, .int .i64 x1, .int .i64 x2] 29))
      have HOA := Lib.hid (HO'.out.alloc (.cells #[.int .i64 x0, .int .i64 x1, .int .i64 x2] 29))
      clear HB' HO'
      go_wp2_with (at_builtin; refine wpList_app (v := v1) (xs := revB (l.take k)) (ys := [⟨x1, x0, x2⟩]) (A := some ⟨wr.heap.size + 1, 0, none⟩) rfl _ _ 22 rfl elT24 enc24 rfl (HOA.out.alloc _) rfl HRD.out (fun h => by cases h) (by simp <;> omega) (by decide) (by have := HBA.out.size; simp at this; simp <;> omega) ?_; intro v' w5 hown' hgrow hnil hat; have HOW := Lib.hid hown'; have HBX := Lib.hid (ofB2 HBA.out HOA.out HBA.out.size hgrow); clear hown' hgrow hnil hat)
      go_roundg (l.length - (k + 1))
      case measure => omega
      case rel => exact ⟨k + 1, _, by omega, by omega, by go_num, rfl, by rw [HT.out]; exact HOW.out, HBX.out⟩
    · obtain rfl : k = l.length := by omega
      have hltz : ¬ ((l.length : Nat) : Int) < (l.length : Int) := by omega
      have ho := HO.out
      rw [List.take_length] at ho
      have hb := HB.out
      clear HO HB
      obtain ⟨A2, c2, rfl, hr⟩ := OwL.rd ho (fun _ => rfl) (by rw [revB_len]; omega)
      rw [revB_len]
      have HS3 := Lib.hid (HS2.out.below hb)
      have HR3 := Lib.hid hr
      have HB3 := Lib.hid (HB2.out.trans (hb.mono HB2.out.size))
      clear ho hb hr HS2 HB2
      obtain ⟨hsm, hmm⟩ := tight_rev HV.out HRV.out (revB_ed l)
      have HBT := Lib.hid (fun i j => between_rev HV.out HRV.out (revB_ed l) i j)
      cases h1 : tightF n l with
      | none =>
        have h2 : tightF n (revB l) = none := by rw [h1] at hsm; simpa using hsm
        have H1 := Lib.hid h1; have H2 := Lib.hid h2
        clear h1 h2 hsm hmm
        go_wp2_with fail
        refine (Tight_no (c := c) HS3.out HV.out H1.out).mono ?_
        rintro e w4 ⟨rfl, hb⟩
        have HS4 := Lib.hid (HS3.out.below hb); have HR4 := Lib.hid (HR3.out.below hb); have HB4 := Lib.hid (HB3.out.trans (hb.mono HB3.out.size))
        clear hb HS3 HR3 HB3
        go_wp2_with fail
        have hc := Tight_no (c := c2) HR4.out HRV.out H2.out
        rw [revB_len] at hc
        refine hc.mono ?_
        rintro e w5 ⟨rfl, hb⟩
        have HS5 := Lib.hid (HS4.out.below hb); have HR5 := Lib.hid (HR4.out.below hb); have HB5 := Lib.hid (HB4.out.trans (hb.mono HB4.out.size))
        clear hb HS4 HR4 HB4 hc
        go_wp2_with fail
        refine (Between_any (c := c) HS5.out HV.out i j).mono ?_
        rintro e w6 ⟨rfl, hb⟩
        have HR6 := Lib.hid (HR5.out.below hb); have HB6 := Lib.hid (HB5.out.trans (hb.mono HB5.out.size))
        clear hb HS5 HR5 HB5
        go_wp2_with fail
        have hc := Between_any (c := c2) HR6.out HRV.out j i
        rw [revB_len, ← HBT.out i j] at hc
        refine hc.mono ?_
        rintro e w7 ⟨rfl, hb⟩
        have HB7 := Lib.hid (HB6.out.trans (hb.mono HB6.out.size))
        clear hb HR6 HB6 hc
        generalize betweenF n l i j = q at *
        obtain ⟨q1, q2, q3⟩ := q
        go_wp2_with fail
        refine (sameMatrix_nil (.func (.func 23) #[] #[]) w7).mono ?_
        rintro e w8 ⟨rfl, rfl⟩
        go_wp2
        go_ret
        exact ⟨ret_bool (by simp), HB7.out⟩
      | some M =>
        obtain ⟨M', h2⟩ : ∃ M', tightF n (revB l) = some M' := by rw [h1] at hsm; exact Option.isSome_iff_exists.1 (by rw [← hsm]; rfl)
        have H1 := Lib.hid h1; have H2 := Lib.hid h2
        have HMM := Lib.hid (hmm M M' h1 h2)
        have hn24 := (bvalid_iff.1 HV.out).2.1
        clear h1 h2 hsm hmm
        go_wp2_with fail
        refine (Tight_yes (c := c) HS3.out HV.out H1.out).mono ?_
        rintro e w4 ⟨bm, rb, cp, rfl, hm, hb⟩
        have HM4 := Lib.hid hm
        have HS4 := Lib.hid (HS3.out.below hb); have HR4 := Lib.hid (HR3.out.below hb); have HB4 := Lib.hid (HB3.out.trans (hb.mono HB3.out.size))
        clear hm hb HS3 HR3 HB3
        go_wp2_with fail
        have hc := Tight_yes (c := c2) HR4.out HRV.out H2.out
        rw [revB_len] at hc
        refine hc.mono ?_
        rintro e w5 ⟨bm2, rb2, cp2, rfl, hm, hb⟩
        have HN5 := Lib.hid hm
        have HM5 := Lib.hid (HM4.out.below hb)
        have HS5 := Lib.hid (HS4.out.below hb); have HR5 := Lib.hid (HR4.out.below hb); have HB5 := Lib.hid (HB4.out.trans (hb.mono HB4.out.size))
        clear hm hb HS4 HR4 HB4 hc HM4
        go_wp2_with fail
        refine (Between_any (c := c) HS5.out HV.out i j).mono ?_
        rintro e w6 ⟨rfl, hb⟩
        have HR6 := Lib.hid (HR5.out.below hb); have HB6 := Lib.hid (HB5.out.trans (hb.mono HB5.out.size))
        have HM6 := Lib.hid (HM5.out.below hb); have HN6 := Lib.hid (HN5.out.below hb)
        clear hb HS5 HR5 HB5 HM5 HN5
        go_wp2_with fail
        have hc := Between_any (c := c2) HR6.out HRV.out j i
        rw [revB_len, ← HBT.out i j] at hc
        refine hc.mono ?_
        rintro e w7 ⟨rfl, hb⟩
        have HB7 := Lib.hid (HB6.out.trans (hb.mono HB6.out.size))
        have HM7 := Lib.hid (HM6.out.below hb); have HN7 := Lib.hid (HN6.out.below hb)
        clear hb HR6 HB6 hc HM6 HN6
        generalize betweenF n l i j = q at *
        obtain ⟨q1, q2, q3⟩ := q
        have hsame := sameMatrix_yes 23 #[] (enters_of Tryz.func23 (by kernel_rfl) rfl) n n n _ _ bm bm2 rb cp rb2 cp2 M M' (fun i j => j) (fun i j => i) w7 HM7.out HN7.out (fun i j _ _ W _ => reversed1_any i j W) (by omega) (fun i j hi hj => ⟨hj, hi, HMM.out i j hi hj⟩)
        have HSA := Lib.hid hsame
        clear hsame
        go_wp2_with fail
        refine HSA.out.mono ?_
        rintro e w8 ⟨rfl, hb⟩
        have HB8 := Lib.hid (HB7.out.trans (hb.mono HB7.out.size))
        clear hb HB7 HSA
        go_wp2
        go_ret
        exact ⟨ret_bool (by simp), HB8.out⟩

theorem timeReversed_any (n : Int) (A : Option Addr) (c : Nat) (l : List Bd) (i j : Int) (w : World) (hs : RdS Bd.enc 3 w A l) :
    Calls Tryz.prog 4 #[.int .i64 n, .slice A l.length c, .int .i64 i, .int .i64 j] w (TruP w) := by
  by_cases hl : l.length ≤ 60
  · by_cases hv : bvalid n l = true
    · obtain ⟨m, rfl⟩ : ∃ m : Nat, n = m := ⟨n.toNat, by have := (bvalid_iff.1 hv).1; omega⟩
      exact timeReversed_ok m A c l i j w hs hv hl
    · have HS := Lib.hid hs
      have HV := Lib.hid (show bvalid n l = false by simpa using hv)
      have hlz : ¬ (60 : Int) < (l.length : Int) := by omega
      clear hs hv
      go_enter Tryz.func4, Tryz.ntmps4
      go_wp2_with fail
      refine (timesAwake_any w).mono ?_
      rintro e w1 ⟨rfl, hb1⟩
      have hval := bvalid_any n A c l w1 (HS.out.below hb1)
      rw [HV.out] at hval
      have HB1 := Lib.hid hb1
      clear hb1 HS
      go_wp2_with fail
      refine hval.mono ?_
      rintro e w2 ⟨rfl, hb2⟩
      have HB2 := Lib.hid (HB1.out.trans (hb2.mono HB1.out.size))
      clear hb2 HB1 hval
      go_wp2
      go_ret
      exact ⟨rfl, HB2.out⟩
  · have hlz : (60 : Int) < (l.length : Int) := by omega
    clear hs
    go_enter Tryz.func4, Tryz.ntmps4
    go_wp2_with fail
    refine (timesAwake_any w).mono ?_
    rintro e w1 ⟨rfl, hb1⟩
    have HB1 := Lib.hid hb1
    clear hb1
    go_wp2
    go_ret
    exact ⟨rfl, HB1.out⟩
end Go.Proofs.YthilkphnjffnhaaGreat
