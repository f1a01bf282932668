/- composer.solved. -/
import Derived.Test.YthilkphnjffnhaaGreatClw
import Derived.Test.YthilkphnjffnhaaGreatScn
import Derived.Test.YthilkphnjffnhaaGreatSng
import Derived.Test.YthilkphnjffnhaaGreatCpy
import Derived.Test.YthilkphnjffnhaaGreatEql
import Derived.IntWalk
import Derived.BigRegion
set_option linter.unusedSimpArgs false
set_option linter.unusedVariables false
namespace Go.Proofs.YthilkphnjffnhaaGreat
open Go.RowKit Go.Shelf

theorem Mat.low {w : World} {lo lo' bm : Nat} {rb cp : Nat → Nat} {k n : Nat} {M : Nat → Nat → Int} (h : Mat w lo bm rb cp k n M) (hl : lo' ≤ lo) : Mat w lo' bm rb cp k n M :=
  ⟨by have := h.olo; omega, h.olt, h.outer, h.ofz, fun i hi => by have := h.rlo i hi; omega, h.rlt, h.rne, h.inj, h.row, h.rfz⟩
theorem Mat.keepK {w w' : World} {lo L bm : Nat} {rb cp : Nat → Nat} {k n b : Nat} {M : Nat → Nat → Int} (h : Mat w lo bm rb cp k n M) (hL : w.heap.size ≤ L) (h1 : bm ≠ b) (h2 : ∀ i, i < k → rb i ≠ b) (hg : KeepB L b w w') : Mat w' lo bm rb cp k n M := by
  have hb : ∀ c, c < w.heap.size → c ≠ b → w'.heap[c]? = w.heap[c]? := fun c hc hne => hg.block c (by omega) hne
  exact ⟨h.olo, by have := h.olt; have := hg.size; omega, fun i hi => (World.cell?_of_block (w := w) (hb _ h.olt h1)).trans (h.outer i hi), fun i => (World.frozen?_of_block (w := w) (hb _ h.olt h1)).trans (h.ofz i),
   h.rlo, fun i hi => by have := h.rlt i hi; have := hg.size; omega, h.rne, h.inj, fun i j hi hj => (World.cell?_of_block (w := w) (hb _ (h.rlt i hi) (h2 i hi))).trans (h.row i j hi hj),
   fun i j hi => (World.frozen?_of_block (w := w) (hb _ (h.rlt i hi) (h2 i hi))).trans (h.rfz i j hi)⟩
theorem RdS.keepK {α : Type} {enc : α → List Value} {k : Nat} {w w' : World} {L b : Nat} {g : Nat} {xs : List α} (h : RdS enc k w (some ⟨g, 0, none⟩) xs) (hL : w.heap.size ≤ L) (hg : g ≠ b) (hk : KeepB L b w w') : RdS enc k w' (some ⟨g, 0, none⟩) xs := by
  refine ⟨h.len, fun i x hx => ?_⟩
  obtain ⟨_, _, e, hb, hc⟩ := h.cells i x hx
  cases e
  exact ⟨g, 0, rfl, by have := hk.size; omega, fun j u hu => (World.cell?_of_block (w := w) (hk.block g (by omega) hg)).trans (hc j u hu)⟩

/-- the state of the search -/
structure SSt (w : World) (lo b bm n : Nat) (rb cp : Nat → Nat) (M1 : Mn) (wr : World) : Prop where
  cm : CMap compN wr b
  kp : KeepB lo b w wr
  mt : Mat wr lo bm rb cp n n (castN M1)
theorem SSt.below {w wr w' : World} {lo b bm n : Nat} {rb cp : Nat → Nat} {M1 : Mn} (h : SSt w lo b bm n rb cp M1 wr) (hb : Below wr.heap.size wr w') : SSt w lo b bm n rb cp M1 w' :=
  ⟨h.cm.below hb, h.kp.trans (KeepB.of_below (hb.mono (by have := h.mt.olo; have := h.mt.olt; omega))), h.mt.below hb⟩
theorem SSt.keep {w wr w' : World} {lo b bm n : Nat} {rb cp : Nat → Nat} {M1 : Mn} (h : SSt w lo b bm n rb cp M1 wr) (h1 : bm ≠ b) (h2 : ∀ i, i < n → rb i ≠ b) (hk : KeepB wr.heap.size b wr w') (hc : CMap compN w' b) : SSt w lo b bm n rb cp M1 w' :=
  ⟨hc, h.kp.trans (hk.mono (by have := h.mt.olo; have := h.mt.olt; omega)), h.mt.keepK (Nat.le_refl _) h1 h2 hk⟩

def SolvedPost (w : World) (lo b n : Nat) (M : Mn) (e : Ending) (w' : World) : Prop :=
  CMap compN w' b ∧ KeepB lo b w w' ∧ ((∃ bo rb cp c' M', e = .returned (.tuple #[.slice (some ⟨bo, 0, none⟩) n c', .bool true]) ∧ Mat w' lo bo rb cp n n (castN M') ∧ Done n M M') ∨ (e = .returned (.tuple #[.slice none 0 0, .bool false]) ∧ ∀ S, ¬ Scen n M S))

/-- the two places of a copy, written -/
theorem pick_mat {w : World} {lo bo n : Nat} {rb cp : Nat → Nat} {M : Mn} (h : Mat w lo bo rb cp n n (castN M)) {i j r : Nat} (hi : i < n) (hj : j < n) :
    Mat ((w.setCell ⟨rb i, j, none⟩ (.int .i64 ((2 ^ r : Nat) : Int))).setCell ⟨rb j, i, none⟩ (.int .i64 ((2 ^ (12 - r) : Nat) : Int))) lo bo rb cp n n (castN (pickN M i j r)) := by
  have h1 := h.set hi hj ((2 ^ r : Nat) : Int)
  rw [castN_upd] at h1
  have h2 := h1.set hj hi ((2 ^ (12 - r) : Nat) : Int)
  rw [castN_upd] at h2
  exact h2

set_option maxRecDepth 100000 in
set_option maxHeartbeats 8000000 in
theorem solved_any (n : Nat) (hn1 : 1 ≤ n) (hn2 : n ≤ 8) : ∀ (fuel : Nat) (lo b bm c : Nat) (rb cp : Nat → Nat) (M : Mn) (w : World), muN n M < fuel → Mat w lo bm rb cp n n (castN M) → CMap compN w b → bm ≠ b → (∀ i, i < n → rb i ≠ b) → LtM n M → Sym n M →
    Calls Tryz.prog 146 #[.map (some b), .slice (some ⟨bm, 0, none⟩) n c] w (SolvedPost w lo b n M) := by
  intro fuel
  induction fuel with
  | zero =>
    intro lo b bm c rb cp M w hmu
    omega
  | succ fuel ih =>
    intro lo b bm c rb cp M w hmu hM hc h1 h2 hl hs
    have IH := Lib.hid ih
    have HCL := Lib.hid (closed_any lo b bm n c rb cp M w hM hc h1 h2 hl hn1 hn2)
    have H2 := Lib.hid h2; have HL := Lib.hid hl; have HSY := Lib.hid hs
    have HLO := Lib.hid (show lo ≤ w.heap.size from by have := hM.olo; have := hM.olt; omega)
    clear ih hM hc h2 hl hs
    go_enter Tryz.func146, Tryz.ntmps146
    go_wp2_with fail
    refine HCL.out.mono ?_
    rintro e w1 ⟨hc1, hk1, ⟨rfl, M1, hM1, hG⟩ | ⟨rfl, hN⟩⟩
    · have HG := Lib.hid hG
      have HS := Lib.hid (show SSt w lo b bm n rb cp M1 w1 from ⟨hc1, hk1, hM1⟩)
      have HS1 := Lib.hid (hG.sym HL.out HSY.out)
      have HL1 := Lib.hid (hG.lt HL.out)
      have HO := Lib.hid (OneTo.start n M1)
      clear hc1 hk1 hM1 hG HCL
      go_wp2
      go_loopg [20] n (fun gg s20 wr => ∃ i : Nat, i ≤ n ∧ n - i ≤ gg ∧ s20 = .int .i64 (i : Int) ∧ Aside (SSt w lo b bm n rb cp M1 wr) ∧ Aside (OneTo n M1 i 0))
      case atStart => exact ⟨0, Nat.zero_le _, by omega, rfl, HS.out, HO.out⟩
      case round =>
        obtain ⟨i, hi, hgi, rfl, HSi, HOi⟩ := hrel
        clear HS HO
        by_cases hlti : i < n
        · have hltzi : (i : Int) < (n : Int) := by omega
          obtain ⟨w2, rfl⟩ : ∃ w2 : World, w2 = wr := ⟨_, rfl⟩
          go_wp2
          go_loopg [24] i (fun gg s24 wr => ∃ j : Nat, j ≤ i ∧ i - j ≤ gg ∧ s24 = .int .i64 (j : Int) ∧ Aside (SSt w lo b bm n rb cp M1 wr) ∧ Aside (OneTo n M1 i j))
          case atStart => exact ⟨0, Nat.zero_le _, by omega, rfl, HSi.out, HOi.out⟩
          case round =>
            obtain ⟨j, hj, hgj, rfl, HSj, HOj⟩ := hrel
            clear HSi HOi
            by_cases hltj : j < i
            · have hltzj : (j : Int) < (i : Int) := by omega
              have hjn : j < n := by omega
              have hjz : (j : Int) < (n : Int) := by omega
              have o1 := HSj.out.mt.outer i hlti
              have r1 := HSj.out.mt.row i j hlti hjn
              have HSG := Lib.hid (singles_any (M1 i j) (HL1.out i j hlti hjn))
              unfold castN at r1
              go_wp2_with fail
              refine (HSG.out _).mono ?_
              rintro e w3 ⟨v, rfl, ho, hb3⟩
              have hne0 := HG.out.clo.non i j hlti hjn
              obtain ⟨l, hle⟩ : ∃ l, l = bitsL (M1 i j) := ⟨_, rfl⟩
              rw [← hle] at ho
              have hl13 : l.length ≤ 13 := by
                rw [hle]; unfold bitsL; exact Nat.le_trans (List.length_filter_le _ _) (by simp)
              have hl1 : 1 ≤ l.length := by
                obtain ⟨t, ht⟩ := Nat.exists_testBit_of_ne_zero hne0
                have : t ∈ l := by rw [hle]; exact mem_bits.2 ⟨bit_lt (HL1.out i j hlti hjn) ht, ht⟩
                exact List.length_pos_of_mem this
              obtain ⟨g, cap, hv, hg1, hg2⟩ : ∃ g cap, v = .slice (some ⟨g, 0, none⟩) l.length cap ∧ wr.heap.size ≤ g ∧ g < w3.heap.size := by
                rcases ho.form with ⟨_, h⟩ | h
                · have := congrArg List.length h; simp at this; rw [this] at hl1; simp at hl1
                · rw [List.length_map] at h; exact h
              subst hv
              have hrd : RdS encI 1 w3 (some ⟨g, 0, none⟩) (l.map fun r : Nat => (r : Int)) := by
                obtain ⟨A, c', e, hr⟩ := OwL.rd ho enc57.len (by simp; omega)
                injection e with e1 e2 e3
                rw [e1]; exact hr
              have HRD := Lib.hid hrd
              have HS3 := Lib.hid (HSj.out.below hb3)
              have HLE := Lib.hid hle
              have HB3 := Lib.hid hb3
              have hgb : b < g := by have := HSj.out.cm.lt; omega
              have HSJ := Lib.hid HSj; have HOJ := Lib.hid HOj
              clear ho hb3 hrd hle hne0 HSj HOj o1 r1 HSG
              by_cases hone : l.length = 1
              · have hz : (l.length : Int) = 1 := by omega
                have e1 : ((l.length : Int) == 1) = true := by simpa using hz
                have HO' := Lib.hid (HOJ.out.out.next (by rw [← HLE.out]; exact hone))
                clear hz
                rw [hone] at *
                clear hone
                go_wp2
                go_roundg (i - (j + 1))
                case measure => omega
                case rel => exact ⟨j + 1, by omega, by omega, by go_num, HS3.out, HO'.out⟩
              · have e1 : ((l.length : Int) == 1) = false := by simp; omega
                have HNONE := Lib.hid (show ∀ r ∈ l.take 0, ∀ S, ¬ Scen n (pickN M1 i j r) S from fun r hr => by simp at hr)
                have HFIN := Lib.hid (show (∀ r ∈ l.take l.length, ∀ S, ¬ Scen n (pickN M1 i j r) S) → ∀ S, ¬ Scen n M S from fun h S hS => by
                  obtain ⟨r, hr, hS'⟩ := pick_scen hlti hjn (by omega) (HG.out.scen hS)
                  rw [List.take_length, HLE.out] at h
                  exact h r hr S hS')
                have hone' := Lib.hid hone
                clear hone
                generalize hLn : l.length = Ln at *
                have HLN := Lib.hid hLn
                clear hLn
                go_wp2
                go_loopg [40] Ln (fun gg s40 wr => ∃ k : Nat, k ≤ Ln ∧ Ln - k ≤ gg ∧ s40 = .int .i64 (k : Int) ∧ Aside (SSt w lo b bm n rb cp M1 wr) ∧ Aside (RdS encI 1 wr (some ⟨g, 0, none⟩) (l.map fun r : Nat => (r : Int))) ∧ Aside (∀ r ∈ l.take k, ∀ S, ¬ Scen n (pickN M1 i j r) S))
                case atStart => exact ⟨0, Nat.zero_le _, by omega, rfl, HS3.out, HRD.out, HNONE.out⟩
                case round =>
                  obtain ⟨k, hk, hgk, rfl, HSk, HRk, HNk⟩ := hrel
                  clear HS3 HRD HNONE HB3 HSJ HOJ
                  by_cases hltk : k < Ln
                  · have hltzk : (k : Int) < (Ln : Int) := by omega
                    have hkl : k < l.length := by rw [HLN.out]; exact hltk
                    obtain ⟨_, _, e, hgl, c0⟩ := HRk.out.s1 (i := k) (by rw [List.length_map]; exact hkl)
                    cases e
                    rw [List.getElem_map] at c0
                    have hrl : l[k] ∈ bitsL (M1 i j) := by rw [← HLE.out]; exact List.getElem_mem hkl
                    have HTK := Lib.hid (show l.take (k + 1) = l.take k ++ [l[k]] from List.take_succ_eq_append_getElem hkl)
                    generalize l[k] = r at *
                    have hr13 := (mem_bits.1 hrl).1
                    have HRL := Lib.hid hrl
                    have HMU := Lib.hid (show muN n (pickN M1 i j r) < fuel by
                      have h1 := pick_mu hlti hjn (by omega) HS1.out hrl (by rw [← HLE.out, HLN.out]; exact hone'.out)
                      have h2 := muN_le HG.out.inv.low
                      omega)
                    clear hrl hkl
                    have hbm : bm < wr.heap.size := HSk.out.mt.olt
                    have hbb : b < wr.heap.size := HSk.out.cm.lt
                    have HCP := Lib.hid (copyOf_any (c := c) HSk.out.mt (by omega))
                    simp only [Nat.zero_add] at c0
                    go_wp2_with fail
                    refine HCP.out.mono ?_
                    rintro e w4 ⟨bo, rb', cp', rfl, hM4, hb4⟩
                    have HM4 := Lib.hid hM4
                    have HB4 := Lib.hid hb4
                    clear hM4 hb4 c0 HCP
                    have o1 := HM4.out.outer i hlti
                    have o2 := HM4.out.outer j hjn
                    have l1 := HM4.out.olt
                    have l2 := HM4.out.rlt i hlti
                    have l3 := HM4.out.rlt j hjn
                    have r1 := HM4.out.row i j hlti hjn
                    have r2 := HM4.out.row j i hjn hlti
                    have f1 := HM4.out.rfz i j hlti
                    have f2 := HM4.out.rfz j i hjn
                    have hne : rb' i ≠ rb' j := fun e => by have := HM4.out.inj i j hlti hjn e; omega
                    have hne' : rb' j ≠ rb' i := fun e => hne e.symm
                    obtain ⟨s, hs⟩ : ∃ s, s = 12 - r := ⟨_, rfl⟩
                    obtain ⟨y1, hy1⟩ : ∃ y, y = 2 ^ r := ⟨_, rfl⟩
                    obtain ⟨y2, hy2⟩ : ∃ y, y = 2 ^ s := ⟨_, rfl⟩
                    have q1 : IntKind.i64.wrap (2 ^ r) = (y1 : Int) := by rw [hy1]; exact shl_one (by omega)
                    have q2 : IntKind.i64.wrap (2 ^ s) = (y2 : Int) := by rw [hy2]; exact shl_one (by omega)
                    have q3 : (12 : Int) - (r : Int) = (s : Int) := by omega
                    have q4 : IntKind.i64.wrap (s : Int) = (s : Int) := IntWalk.i64_in _ (by omega)
                    have hs12 : s ≤ 12 := by omega
                    have hr12 : (r : Int) ≤ 12 := by omega
                    have hr64 : (r : Int) ≤ 64 := by omega
                    have hs64 : (s : Int) ≤ 64 := by omega
                    have PICK := Lib.hid (fun W (hW : Mat W wr.heap.size bo rb' cp' n n (castN M1)) => (show Mat ((W.setCell ⟨rb' i, j, none⟩ (.int .i64 ((y1 : Nat) : Int))).setCell ⟨rb' j, i, none⟩ (.int .i64 ((y2 : Nat) : Int))) wr.heap.size bo rb' cp' n n (castN (pickN M1 i j r)) by
                      rw [hy1, hy2, hs]; exact pick_mat hW hlti hjn))
                    clear hs hy1 hy2
                    unfold castN at r1 r2
                    go_wp2
                    go_region
                    have HM5 := Lib.hid (PICK.out _ HM4.out).drew
                    have HK5 := Lib.hid (((KeepB.of_below (b := b) HB4.out).set (p := ⟨rb' i, j, none⟩) (HM4.out.rlo i hlti) (.int .i64 ((y1 : Nat) : Int))).set (p := ⟨rb' j, i, none⟩) (HM4.out.rlo j hjn) (.int .i64 ((y2 : Nat) : Int))).drew
                    have hrlo1 := HM4.out.rlo i hlti
                    have hrlo2 := HM4.out.rlo j hjn
                    have HRB := Lib.hid HM4.out.rlo
                    have hbolo := HM4.out.olo
                    have hcm5 : CMap compN (((w4.setCell ⟨rb' i, j, none⟩ (.int .i64 ((y1 : Nat) : Int))).setCell ⟨rb' j, i, none⟩ (.int .i64 ((y2 : Nat) : Int))).drew) b :=
                      CMap.of_block (((HSk.out.cm.below HB4.out).set (p := ⟨rb' i, j, none⟩) (by show rb' i ≠ b; omega) _).set (p := ⟨rb' j, i, none⟩) (by show rb' j ≠ b; omega) _) rfl
                    have HCM := Lib.hid hcm5
                    clear hcm5 o1 o2 l1 l2 l3 r1 r2 f1 f2 q1 q2 q3 q4 PICK HM4 HB4
                    generalize (((w4.setCell ⟨rb' i, j, none⟩ (.int .i64 ((y1 : Nat) : Int))).setCell ⟨rb' j, i, none⟩ (.int .i64 ((y2 : Nat) : Int))).drew) = w5 at *
                    have HIH := Lib.hid (IH.out wr.heap.size b bo n rb' cp' (pickN M1 i j r) w5 HMU.out HM5.out HCM.out (by omega) (fun a ha => by have := HRB.out a ha; omega) (pick_lt HL1.out hr13) (pick_sym (by omega) HS1.out hr13))
                    clear HM5 HCM HRB HMU
                    go_wp2_with fail
                    refine HIH.out.mono ?_
                    rintro e w6 ⟨hc6, hk6, ⟨bo2, rb2, cp2, c2, M2, rfl, hM2, hD⟩ | ⟨rfl, hno⟩⟩
                    · have HEND := Lib.hid (show SolvedPost w lo b n M (.returned (.tuple #[.slice (some ⟨bo2, 0, none⟩) n c2, .bool true])) w6 from
                        ⟨hc6, HSk.out.kp.trans ((HK5.out.trans hk6).mono (by have := HSk.out.mt.olo; omega)), .inl ⟨bo2, rb2, cp2, c2, M2, rfl, hM2.low (by have := HSk.out.mt.olo; omega),
                          ⟨hD.clo, hD.sym, (hD.sub.trans (pick_sub hlti hjn (by omega) HS1.out HRL.out)).trans HG.out.inv.low, hD.one⟩⟩⟩)
                      clear hc6 hk6 hM2 hD HIH HSk HRk HNk
                      go_wp2
                      go_ret2
                      exact HEND.out
                    · have HK6 := HK5.out.trans hk6
                      have HS6 := Lib.hid (HSk.out.keep h1 H2.out HK6 hc6)
                      have HR6 := Lib.hid (HRk.out.keepK (Nat.le_refl _) (by omega) HK6)
                      have HN6 := Lib.hid (show ∀ r ∈ l.take (k + 1), ∀ S, ¬ Scen n (pickN M1 i j r) S from fun r' hr' => by
                        rw [HTK.out] at hr'
                        rcases List.mem_append.1 hr' with h | h
                        · exact HNk.out r' h
                        · simp at h; subst h; exact hno)
                      clear hc6 hk6 hno HK6 HIH HSk HRk HNk HK5
                      go_wp2
                      go_roundg (Ln - (k + 1))
                      case measure => omega
                      case rel => exact ⟨k + 1, by omega, by omega, by go_num, HS6.out, HR6.out, HN6.out⟩
                  · obtain rfl : Ln = k := by omega
                    have hltzk : ¬ (Ln : Int) < (Ln : Int) := by omega
                    have HEND := Lib.hid (show SolvedPost w lo b n M (.returned (.tuple #[.slice none 0 0, .bool false])) wr from
                      ⟨HSk.out.cm, HSk.out.kp, .inr ⟨rfl, HFIN.out HNk.out⟩⟩)
                    clear HSk HRk HNk
                    go_wp2
                    go_ret2
                    exact HEND.out
            · obtain rfl : i = j := by omega
              have hltzj : ¬ (i : Int) < (i : Int) := by omega
              have HO' := Lib.hid HOj.out.row
              clear HOj
              go_wp2
              go_roundg (n - (i + 1))
              case measure => omega
              case rel => exact ⟨i + 1, by omega, by omega, by go_num, HSj, HO'.out⟩
        · obtain rfl : n = i := by omega
          have hltzi : ¬ (n : Int) < (n : Int) := by omega
          have HEND := Lib.hid (show SolvedPost w lo b n M (.returned (.tuple #[.slice (some ⟨bm, 0, none⟩) n c, .bool true])) wr from
            ⟨HSi.out.cm, HSi.out.kp, .inl ⟨bm, rb, cp, c, M1, rfl, HSi.out.mt, HOi.out.done HG.out HS1.out⟩⟩)
          clear HSi HOi
          go_wp2
          go_ret2
          exact HEND.out
    · have HEND := Lib.hid (show SolvedPost w lo b n M (.returned (.tuple #[.slice none 0 0, .bool false])) w1 from ⟨hc1, hk1, .inr ⟨rfl, noClo_scen hN⟩⟩)
      clear hc1 hk1 hN HCL
      go_wp2
      go_ret2
      exact HEND.out
end Go.Proofs.YthilkphnjffnhaaGreat
