/- composer.closed. -/
import Derived.Test.YthilkphnjffnhaaGreatOfc
import Derived.Test.YthilkphnjffnhaaGreatScn
import Derived.Test.YthilkphnjffnhaaGreatWlk
import Derived.Deep.LoopGhost
set_option linter.unusedSimpArgs false
set_option linter.unusedVariables false
namespace Go.Proofs.YthilkphnjffnhaaGreat
open Go.RowKit Go.Shelf

def castN (M : Mn) : Nat → Nat → Int := fun i j => ((M i j : Nat) : Int)
theorem castN_upd (M : Mn) (i j x : Nat) : upd (castN M) i j ((x : Nat) : Int) = castN (updN M i j x) := by
  funext a b
  unfold upd castN updN
  split <;> rfl
theorem Mat.keepB {w w' : World} {lo bm : Nat} {rb cp : Nat → Nat} {k n b : Nat} {M : Nat → Nat → Int} (h : Mat w lo bm rb cp k n M) (h1 : bm ≠ b) (h2 : ∀ i, i < k → rb i ≠ b) (hg : w.grownBy w' (some b)) : Mat w' lo bm rb cp k n M := by
  have hb : ∀ c, c < w.heap.size → c ≠ b → w'.heap[c]? = w.heap[c]? := fun c hc hne => hg.block c hc (by simpa using hne)
  exact ⟨h.olo, by have := h.olt; have := hg.size; omega, fun i hi => (World.cell?_of_block (w := w) (hb _ h.olt h1)).trans (h.outer i hi), fun i => (World.frozen?_of_block (w := w) (hb _ h.olt h1)).trans (h.ofz i),
   h.rlo, fun i hi => by have := h.rlt i hi; have := hg.size; omega, h.rne, h.inj, fun i j hi hj => (World.cell?_of_block (w := w) (hb _ (h.rlt i hi) (h2 i hi))).trans (h.row i j hi hj),
   fun i j hi => (World.frozen?_of_block (w := w) (hb _ (h.rlt i hi) (h2 i hi))).trans (h.rfz i j hi)⟩

/-- the state of the closure: M1 is what M has become -/
structure CSt (w : World) (lo b bm n : Nat) (rb cp : Nat → Nat) (M : Mn) (wr : World) (M1 : Mn) : Prop where
  cm : CMap compN wr b
  kp : KeepB lo b w wr
  mt : Mat wr lo bm rb cp n n (castN M1)
  lt : LtM n M1
  inv : CInv n M M1
/-- how a pass that began at M1 stands -/
def Pass (n : Nat) (M1 M2 : Mn) (ag : Bool) (K I J : Nat) : Prop := (ag = true ∧ muN n M2 < muN n M1) ∨ (ag = false ∧ M2 = M1 ∧ Quiet n M2 K I J)
theorem Pass.row {n : Nat} {M1 M2 : Mn} {ag : Bool} {K I : Nat} (h : Pass n M1 M2 ag K I n) : Pass n M1 M2 ag K (I + 1) 0 := by
  rcases h with h | ⟨h1, h2, h3⟩
  · exact .inl h
  · exact .inr ⟨h1, h2, h3.row⟩
theorem Pass.mid {n : Nat} {M1 M2 : Mn} {ag : Bool} {K : Nat} (h : Pass n M1 M2 ag K n 0) : Pass n M1 M2 ag (K + 1) 0 0 := by
  rcases h with h | ⟨h1, h2, h3⟩
  · exact .inl h
  · exact .inr ⟨h1, h2, h3.mid⟩
theorem Pass.same {n : Nat} {M1 M2 : Mn} {ag : Bool} {K I J : Nat} (h : Pass n M1 M2 ag K I J) (h1 : stepN M2 K I J = M2 I J) (h2 : M2 I J ≠ 0) : Pass n M1 M2 ag K I (J + 1) := by
  rcases h with h | ⟨e1, e2, e3⟩
  · exact .inl h
  · exact .inr ⟨e1, e2, e3.next h1 h2⟩
theorem Pass.turn {n : Nat} {M1 M2 : Mn} {ag : Bool} {K I J : Nat} (h : Pass n M1 M2 ag K I J) (hI : I < n) (hJ : J < n) (h1 : stepN M2 K I J ≠ M2 I J) (K' I' J' : Nat) : Pass n M1 (updN M2 I J (stepN M2 K I J)) true K' I' J' := by
  have h2 := stepN_lt h1
  have h3 := muN_upd (M := M2) (x := stepN M2 K I J) hI hJ
  left
  refine ⟨rfl, ?_⟩
  rcases h with h | ⟨_, e2, _⟩
  · have := h.2; omega
  · rw [← e2]; omega

def ClosedPost (w : World) (lo b bm n : Nat) (rb cp : Nat → Nat) (M : Mn) (e : Ending) (w' : World) : Prop :=
  CMap compN w' b ∧ KeepB lo b w w' ∧ ((e = .returned (.bool true) ∧ ∃ M', Mat w' lo bm rb cp n n (castN M') ∧ Great n M M') ∨ (e = .returned (.bool false) ∧ NoClo n M))
theorem CSt.no {w wr : World} {lo b bm n : Nat} {rb cp : Nat → Nat} {M M1 : Mn} (h : CSt w lo b bm n rb cp M wr M1) {k i j : Nat} (hk : k < n) (hi : i < n) (hj : j < n) (h0 : stepN M1 k i j = 0) {w2 : World} (hc : CMap compN w2 b) (hg : wr.grownBy w2 (some b)) : ClosedPost w lo b bm n rb cp M (.returned (.bool false)) w2 :=
  ⟨hc, h.kp.trans (KeepB.of_grown hg (by have := h.mt.olt; have := h.mt.olo; omega)), .inr ⟨rfl, h.inv.none_ hk hi hj h0⟩⟩
theorem CSt.same {w wr : World} {lo b bm n : Nat} {rb cp : Nat → Nat} {M M1 : Mn} (h : CSt w lo b bm n rb cp M wr M1) (h1 : bm ≠ b) (h2 : ∀ i, i < n → rb i ≠ b) {w2 : World} (hc : CMap compN w2 b) (hg : wr.grownBy w2 (some b)) : CSt w lo b bm n rb cp M w2 M1 :=
  ⟨hc, h.kp.trans (KeepB.of_grown hg (by have := h.mt.olt; have := h.mt.olo; omega)), h.mt.keepB h1 h2 hg, h.lt, h.inv⟩
theorem CSt.turn {w wr : World} {lo b bm n : Nat} {rb cp : Nat → Nat} {M M1 : Mn} (h : CSt w lo b bm n rb cp M wr M1) (h2 : ∀ i, i < n → rb i ≠ b) {k i j : Nat} (hk : k < n) (hi : i < n) (hj : j < n) :
    CSt w lo b bm n rb cp M (wr.setCell ⟨rb i, j, none⟩ (.int .i64 ((stepN M1 k i j : Nat) : Int))) (updN M1 i j (stepN M1 k i j)) :=
  ⟨h.cm.set (h2 i hi) _, h.kp.set (h.mt.rlo i hi) _, by rw [← castN_upd]; exact h.mt.set hi hj _, h.lt.upd i j (and_lt (h.lt i j hi hj)), h.inv.step hk hi hj⟩
theorem CSt.yes {w wr : World} {lo b bm n : Nat} {rb cp : Nat → Nat} {M M1 : Mn} (h : CSt w lo b bm n rb cp M wr M1) (hc : Clo n M1) : ClosedPost w lo b bm n rb cp M (.returned (.bool true)) wr :=
  ⟨h.cm, h.kp, .inl ⟨rfl, M1, h.mt, hc, h.inv⟩⟩

set_option maxRecDepth 100000 in
set_option maxHeartbeats 8000000 in
theorem closed_any (lo b bm n c : Nat) (rb cp : Nat → Nat) (M : Mn) (w : World) (hM : Mat w lo bm rb cp n n (castN M)) (hc : CMap compN w b) (h1 : bm ≠ b) (h2 : ∀ i, i < n → rb i ≠ b) (hl : LtM n M) (hn1 : 1 ≤ n) (hn2 : n ≤ 8) :
    Calls Tryz.prog 144 #[.map (some b), .slice (some ⟨bm, 0, none⟩) n c] w (ClosedPost w lo b bm n rb cp M) := by
  have hST : CSt w lo b bm n rb cp M w M := ⟨hc, KeepB.refl _ _ _, hM, hl, CInv.refl _ _⟩
  have HST := Lib.hid hST
  have H2 := Lib.hid h2
  clear hST hM hc hl h2
  go_enter Tryz.func144, Tryz.ntmps144
  go_wp2
  go_loopg [5] (2 * muN n M + 1) (fun gg s5 wr => ∃ (M1 : Mn) (ag : Bool), s5 = .bool ag ∧ Aside (CSt w lo b bm n rb cp M wr M1) ∧ (2 * muN n M1 + (if ag then 1 else 0) ≤ gg) ∧ Aside (ag = false → Clo n M1))
  case atStart => exact ⟨M, true, rfl, HST.out, by simp, (show Aside _ from fun h => by cases h)⟩
  case round =>
    obtain ⟨M1, ag, rfl, HS, hg, HQ⟩ := hrel
    clear HST
    cases ag with
    | false =>
      have HC := Lib.hid (HQ.out rfl)
      clear HQ
      have HP := Lib.hid (HS.out.yes HC.out)
      go_wp2
      go_ret
      exact HP.out
    | true =>
      clear HQ
      simp only [if_true] at hg
      obtain ⟨w1, rfl⟩ : ∃ w1 : World, w1 = wr := ⟨_, rfl⟩
      go_wp2
      have HP0 := Lib.hid (show Pass n M1 M1 false 0 0 0 from .inr ⟨rfl, rfl, Quiet.start n M1⟩)
      go_loopg [5, 13] n (fun gg s5 s13 wr => ∃ (k : Nat) (M2 : Mn) (ag : Bool), k ≤ n ∧ n - k ≤ gg ∧ s13 = .int .i64 (k : Int) ∧ s5 = .bool ag ∧ Aside (CSt w lo b bm n rb cp M wr M2) ∧ Aside (Pass n M1 M2 ag k 0 0))
      case atStart => exact ⟨0, M1, false, Nat.zero_le _, by omega, rfl, rfl, HS.out, HP0.out⟩
      case round =>
        obtain ⟨k, M2, ag, hk, hgk, rfl, rfl, HS2, HP2⟩ := hrel
        clear HS HP0
        by_cases hlt : k < n
        · have hltz : (k : Int) < (n : Int) := by omega
          obtain ⟨w2, rfl⟩ : ∃ w2 : World, w2 = wr := ⟨_, rfl⟩
          go_wp2
          go_loopg [5, 18] n (fun gg s5 s18 wr => ∃ (i : Nat) (M2 : Mn) (ag : Bool), i ≤ n ∧ n - i ≤ gg ∧ s18 = .int .i64 (i : Int) ∧ s5 = .bool ag ∧ Aside (CSt w lo b bm n rb cp M wr M2) ∧ Aside (Pass n M1 M2 ag k i 0))
          case atStart => exact ⟨0, M2, ag, Nat.zero_le _, by omega, rfl, rfl, HS2.out, HP2.out⟩
          case round =>
            clear HS2 HP2
            obtain ⟨i, M3, ag3, hi, hgi, rfl, rfl, HS3, HP3⟩ := hrel
            by_cases hlti : i < n
            · have hltzi : (i : Int) < (n : Int) := by omega
              obtain ⟨w3, rfl⟩ : ∃ w3 : World, w3 = wr := ⟨_, rfl⟩
              go_wp2
              go_loopg [5, 23] n (fun gg s5 s23 wr => ∃ (j : Nat) (M2 : Mn) (ag : Bool), j ≤ n ∧ n - j ≤ gg ∧ s23 = .int .i64 (j : Int) ∧ s5 = .bool ag ∧ Aside (CSt w lo b bm n rb cp M wr M2) ∧ Aside (Pass n M1 M2 ag k i j))
              case atStart => exact ⟨0, M3, ag3, Nat.zero_le _, by omega, rfl, rfl, HS3.out, HP3.out⟩
              case round =>
                clear HS3 HP3
                obtain ⟨j, M4, ag4, hj, hgj, rfl, rfl, HS4, HP4⟩ := hrel
                by_cases hltj : j < n
                · have hltzj : (j : Int) < (n : Int) := by omega
                  obtain ⟨w4, rfl⟩ : ∃ w4 : World, w4 = wr := ⟨_, rfl⟩
                  have o1 := HS4.out.mt.outer i hlti
                  have o2 := HS4.out.mt.outer k hlt
                  have r1 := HS4.out.mt.row i j hlti hltj
                  have r2 := HS4.out.mt.row i k hlti hlt
                  have r3 := HS4.out.mt.row k j hlt hltj
                  have f1 := HS4.out.mt.rfz i j hlti
                  have l1 := HS4.out.mt.olt
                  have l2 := HS4.out.mt.rlt i hlti
                  have l3 := HS4.out.mt.rlt k hlt
                  have n2 := H2.out i hlti
                  have n3 := H2.out k hlt
                  have v1 := HS4.out.lt i j hlti hltj
                  have v2 := HS4.out.lt i k hlti hlt
                  have v3 := HS4.out.lt k j hlt hltj
                  have hbl := HS4.out.cm.lt
                  unfold castN at r1 r2 r3
                  have HNO := Lib.hid (fun h0 (x : Xb compN) => HS4.out.no (k := k) (i := i) (j := j) hlt hlti hltj h0 (exb_cmap w4 b x hbl) (exb_grown w4 b x))
                  have HSAME := Lib.hid (fun x : Xb compN => HS4.out.same h1 H2.out (exb_cmap w4 b x hbl) (exb_grown w4 b x))
                  have HPS := Lib.hid (HP4.out.same)
                  have HPT := Lib.hid (HP4.out.turn hlti hltj)
                  have HX := Lib.hid (show stepN M4 k i j = M4 i j &&& compN (M4 i k) (M4 k j) from rfl)
                  have HOF := Lib.hid (of193_any b (M4 i k) (M4 k j) v2 v3)
                  have HAND := Lib.hid (and_i64 (M4 i j) (compN (M4 i k) (M4 k j)) (by omega) (by have := compN_lt (M4 i k) (M4 k j); omega))
                  obtain ⟨x, hx⟩ : ∃ x, x = stepN M4 k i j := ⟨_, rfl⟩
                  obtain ⟨cc, hcc⟩ : ∃ cc, cc = compN (M4 i k) (M4 k j) := ⟨_, rfl⟩
                  rw [← hcc] at HX HOF HAND
                  rw [← hx] at HX
                  rw [← HX.out] at HAND
                  have hand := HAND.out
                  have HXE := Lib.hid hx
                  have HM4 := Lib.hid HS4.out.cm
                  clear HS4 HP4 hx hcc HX HAND
                  have HE1 := Lib.hid (show ∃ v, v = M4 i j from ⟨_, rfl⟩)
                  go_wp2
                  refine wp_region_exb_tail (f := compN) (b := b) 24 HM4.out (by kernel_rfl) (by kernel_rfl) ?_
                  simp only [List.take_succ_cons, List.take_zero, List.drop_succ_cons, List.drop_zero]
                  repeat (refine wpQuiet_step (fun K hK => ?_); go_simp; (refine hK _ ?_; clear hK K))
                  refine wpQuiet_step (fun K hK => ?_)
                  go_simp
                  apply Exists.intro
                  refine ⟨fun _ => ?_, hK _ ?_⟩
                  · exact calls_exb hbl (fun hcm => HOF.out _ hcm)
                  clear hK K
                  repeat (refine wpQuiet_step (fun K hK => ?_); go_simp; (refine hK _ ?_; clear hK K))
                  refine wpQuiet_nil ?_
                  intro xb
                  clear hand HM4 HOF r2 r3
                  have HS5 := Lib.hid (HSAME.out xb)
                  have HN5 := Lib.hid (fun h0 => HNO.out h0 xb)
                  clear HNO HSAME
                  have q1 := exb_cell w4 b xb (a := ⟨bm, i, none⟩) l1 h1
                  have q2 := exb_cell w4 b xb (a := ⟨rb i, j, none⟩) l2 n2
                  have q3 := exb_frozen w4 b xb (a := ⟨rb i, j, none⟩) l2 n2
                  have q4 : rb i < (exb w4 b xb).heap.size := by rw [exb_size]; omega
                  rw [o1] at q1
                  rw [r1] at q2
                  rw [f1] at q3
                  clear o1 r1 f1
                  obtain ⟨w5, hw5⟩ : ∃ w5, w5 = exb w4 b xb := ⟨_, rfl⟩
                  rw [← hw5] at HS5 HN5 q1 q2 q3 q4 ⊢
                  clear hw5 o2 l3 n3 v2 v3 hbl
                  by_cases h0 : x = 0
                  · have HEND := Lib.hid (HN5.out (by rw [← HXE.out]; exact h0))
                    subst h0
                    go_wp2
                    go_ret
                    exact HEND.out
                  · by_cases hxe : x = M4 i j
                    · rw [← hxe] at q2
                      have HP5 := Lib.hid (HPS.out (by rw [← HXE.out]; exact hxe) (by rw [← hxe]; exact h0))
                      have e0 : ((x : Int) == 0) = false := by simpa using h0
                      clear hxe HXE HPS HPT v1 HE1 h0 HN5
                      go_wp2
                      go_roundg (n - (j + 1))
                      case measure => omega
                      case rel => exact ⟨j + 1, M4, ag4, by omega, by omega, by go_num, rfl, HS5.out, HP5.out⟩
                    · have HP5 := Lib.hid (HPT.out (by rw [← HXE.out]; exact hxe) k i (j + 1))
                      have HS6 := Lib.hid (HS5.out.turn H2.out (k := k) hlt hlti hltj)
                      rw [← HXE.out] at HP5 HS6
                      have e0 : ((x : Int) == 0) = false := by simpa using h0
                      obtain ⟨v, hv⟩ : ∃ v, v = M4 i j := ⟨_, rfl⟩
                      rw [← hv] at q2 hxe
                      have e1 : ((x : Int) != (v : Int)) = true := by simp; omega
                      have e2 : ((x : Int) == (v : Int)) = false := by simp; omega
                      clear HXE HPS HPT v1 HE1 h0 HN5 hv HS5
                      go_wp2
                      go_roundg (n - (j + 1))
                      case measure => omega
                      case rel => exact ⟨j + 1, _, true, by omega, by omega, by go_num, rfl, HS6.out, HP5.out⟩
                · obtain rfl : n = j := by omega
                  have hltzj : ¬ (n : Int) < (n : Int) := by omega
                  have HPR := Lib.hid HP4.out.row
                  clear HP4
                  go_wp2
                  go_roundg (n - (i + 1))
                  case measure => omega
                  case rel => exact ⟨i + 1, M4, ag4, by omega, by omega, by go_num, rfl, HS4, HPR.out⟩
            · obtain rfl : n = i := by omega
              have HPR := Lib.hid HP3.out.mid
              clear HP3
              have hltzi : ¬ (n : Int) < (n : Int) := by omega
              go_wp2
              go_roundg (n - (k + 1))
              case measure => omega
              case rel => exact ⟨k + 1, M3, ag3, by omega, by omega, by go_num, rfl, HS3, HPR.out⟩
        · obtain rfl : n = k := by omega
          have hltz : ¬ (n : Int) < (n : Int) := by omega
          have HP := Lib.hid HP2.out
          clear HP2
          go_wp2
          go_roundg (2 * muN n M2 + (if ag then 1 else 0))
          case measure =>
            rcases HP.out with ⟨h1, h2⟩ | ⟨h1, h2, _⟩
            · rw [h1]; simp; omega
            · rw [h1, h2]; simp; omega
          case rel => exact ⟨M2, ag, rfl, HS2, Nat.le_refl _, (show Aside _ from fun e => by
            rcases HP.out with ⟨h1, _⟩ | ⟨_, _, h3⟩
            · rw [h1] at e; cases e
            · exact h3.clo)⟩
end Go.Proofs.YthilkphnjffnhaaGreat
