/- network.matrix: the parts. -/
import Derived.Test.YthilkphnjffnhaaGreatClw
import Derived.Test.YthilkphnjffnhaaGreatScn
import Derived.Test.YthilkphnjffnhaaGreatCpy
import Derived.Lib.SliceRun
import Derived.Test.YthilkphnjffnhaaGreatTgt
import Derived.Test.YthilkphnjffnhaaGreatInv
set_option linter.unusedSimpArgs false
set_option linter.unusedVariables false
namespace Go.Proofs.YthilkphnjffnhaaGreat
open Go.RowKit Go.Shelf

/-- the matrix, ahead of row k -/
def RowsN (w wr : World) (n k : Nat) : Prop :=
  Below w.heap.size w wr ∧ (∃ rb cp, Mat wr w.heap.size w.heap.size rb cp k n (castN initN)) ∧ ∀ i, k ≤ i → i < n → wr.cell? ⟨w.heap.size, i, none⟩ = some (.slice none 0 0)
theorem rowsN_start (w : World) (n : Nat) : RowsN w (w.alloc (.cells (List.replicate n (.slice none 0 0)).toArray 26)) n 0 := by
  refine ⟨(Below.refl _ _).alloc (Nat.le_refl _) _, ⟨fun _ => 0, fun _ => 0, Mat.none_ (Nat.le_refl _) (by simp) (fun i => ?_) _ _ _ _⟩, fun i _ hi => ?_⟩
  · unfold World.frozen?
    rw [heap_alloc_new]
    simp
  · rw [World.cell?_alloc_new]; simp [hi]
theorem rowsN_step {w wr w1 : World} {n k g : Nat} {o : Obj} (hk : k < n) (h : RowsN w wr n k) (hg : (wr.alloc o).heap.size ≤ g) (hblk : Blk w1 g 3 (List.replicate n (.int .i64 8191))) (hb : Below (wr.alloc o).heap.size (wr.alloc o) w1) :
    RowsN w ((w1.setCell ⟨w.heap.size, k, none⟩ (.slice (some ⟨g, 0, none⟩) n n)).setCell ⟨g, k, none⟩ (.int .i64 64)) n (k + 1) := by
  obtain ⟨HB, ⟨rb, cp, HM⟩, HN⟩ := h
  have hsz : (wr.alloc o).heap.size = wr.heap.size + 1 := by simp
  have hbm := HM.olt
  have M1 := (HM.alloc o).below hb
  have hgl : g < w1.heap.size := (Array.getElem?_eq_some_iff.1 hblk).1
  have hcell : ∀ i, k ≤ i → i < n → w1.cell? ⟨w.heap.size, i, none⟩ = some (.slice none 0 0) := fun i h1 h2 => by
    rw [hb.cell (by simp; omega), World.cell?_alloc_lt _ _ _ hbm]; exact HN i h1 h2
  have hgne : g ≠ w.heap.size := by omega
  have M2 := M1.grow (g := g) (x := 8191) (by omega) (fun i hi => by have := HM.rlt i hi; omega) hgne (hcell k (Nat.le_refl _) hk) (c := n) hgl
    (fun j hj => by rw [cell_of_row _ _ _ _ _ _ hblk]; simp [hj]) (fun j => by have := hblk; unfold Blk at this; simp [World.frozen?, this])
  have M3 := M2.set (i := k) (j := k) (by omega) hk 64
  simp only [if_true] at M3
  refine ⟨?_, ⟨_, _, M3.congr ?_⟩, ?_⟩
  · refine Below.setCell (Below.setCell (HB.trans (((Below.refl wr.heap.size wr).alloc (Nat.le_refl _) o |>.trans (hb.mono (by omega))).mono ?_)) ?_ _) ?_ _
    · exact HB.size
    · exact Nat.le_refl _
    · have := HB.size; show w.heap.size ≤ g; omega
  · intro i j hi hj
    simp only [upd, castN, initN]
    by_cases e : i = k
    · subst e
      by_cases e' : j = i
      · subst e'; simp
      · rw [if_neg (by omega), if_pos rfl, if_neg (by omega)]; rfl
    · rw [if_neg (by omega), if_neg e]
  · intro i h1 h2
    rw [World.cell?_setCell_other _ _ _ _ (fun e => hgne (congrArg Addr.block e)), World.cell?_setCell_other _ _ _ _ (fun e => by have := congrArg Addr.off e; simp at this; omega)]
    exact hcell i (by omega) h2

/-- a relation in a block of its own -/
structure Bx3 (B : Nat) (w : World) (a b c : Nat) : Prop where
  c0 : w.cell? ⟨B, 0, none⟩ = some (.int .i64 (a : Int))
  c1 : w.cell? ⟨B, 1, none⟩ = some (.int .i64 (b : Int))
  c2 : w.cell? ⟨B, 2, none⟩ = some (.int .i64 (c : Int))
  lt : B < w.heap.size
theorem Bx3.below {B : Nat} {w w' : World} {a b c : Nat} (h : Bx3 B w a b c) (hb : Below w.heap.size w w') : Bx3 B w' a b c :=
  ⟨(hb.cell (p := ⟨B, 0, none⟩) h.lt).trans h.c0, (hb.cell (p := ⟨B, 1, none⟩) h.lt).trans h.c1, (hb.cell (p := ⟨B, 2, none⟩) h.lt).trans h.c2, by have := h.lt; have := hb.size; omega⟩
theorem Bx3.set {B : Nat} {w : World} {a b c : Nat} (h : Bx3 B w a b c) {p : Addr} (hp : p.block ≠ B) (v : Value) : Bx3 B (w.setCell p v) a b c := by
  have hne : ∀ o, p ≠ ⟨B, o, none⟩ := fun o e => hp (congrArg Addr.block e)
  exact ⟨by rw [World.cell?_setCell_other _ _ _ _ (hne 0)]; exact h.c0, by rw [World.cell?_setCell_other _ _ _ _ (hne 1)]; exact h.c1, by rw [World.cell?_setCell_other _ _ _ _ (hne 2)]; exact h.c2, by simpa [World.setCell] using h.lt⟩
theorem Bx3.new (w : World) (a b c : Nat) (e : TypeId) : Bx3 w.heap.size (w.alloc (.cells #[.int .i64 (a : Int), .int .i64 (b : Int), .int .i64 (c : Int)] e)) a b c :=
  ⟨by rw [World.cell?_alloc_new]; rfl, by rw [World.cell?_alloc_new]; rfl, by rw [World.cell?_alloc_new]; rfl, by simp⟩

/-- a row of zeros -/
theorem zero_row {lo bm n : Nat} {rb cp : Nat → Nat} {i : Nat} (hi : i < n) : ∀ (m o : Nat) (w : World) (M : Nat → Nat → Int), o + m = n → Mat w lo bm rb cp n n M →
    Mat (w.setCells (rb i) o (List.replicate m (.int .i64 0))) lo bm rb cp n n (fun a b => if a = i ∧ o ≤ b then 0 else M a b)
  | 0, o, w, M, h, hM => by
    refine hM.congr fun a b ha hb => ?_
    rw [if_neg (by omega)]
  | m + 1, o, w, M, h, hM => by
    have h1 := hM.set hi (j := o) (by omega) 0
    have h2 := zero_row hi m (o + 1) _ _ (by omega) h1
    rw [List.replicate_succ]
    refine Mat.congr (M := _) h2 fun a b ha hb => ?_
    unfold upd
    by_cases e : a = i
    · subst e
      by_cases e2 : o + 1 ≤ b
      · rw [if_pos ⟨rfl, e2⟩, if_pos ⟨rfl, by omega⟩]
      · rw [if_neg (fun h => e2 h.2)]
        by_cases e3 : b = o
        · rw [if_pos ⟨rfl, e3⟩, if_pos ⟨rfl, by omega⟩]
        · rw [if_neg (fun h => e3 h.2), if_neg (fun h => by have := h.2; omega)]
    · rw [if_neg (fun h => e h.1), if_neg (fun h => e h.1), if_neg (fun h => e h.1)]
theorem setCells_low (g : Nat) {B : Nat} {w0 : World} (hg : B ≤ g) : ∀ (vs : List Value) (o : Nat) (w : World), Below B w0 w → Below B w0 (w.setCells g o vs)
  | [], _, _, h => h
  | v :: vs, o, w, h => setCells_low g hg vs (o + 1) _ (h.setCell (p := ⟨g, o, none⟩) hg v)
theorem clear_any {w : World} {lo bm n : Nat} {rb cp : Nat → Nat} {M : Nat → Nat → Int} (h : Mat w lo bm rb cp n n M) {i : Nat} (hi : i < n) (hn : 1 ≤ n) (c : Nat) : ∀ ty, (Builtin.clear_ #[26] ty #[.slice (some ⟨rb i, 0, none⟩) n c]).run Tryz.prog w = .ok (.tuple #[]) (w.setCells (rb i) 0 (List.replicate n (.int .i64 0))) := fun ty =>
  Lib.run_clear_slice w 26 3 ty (.int .i64 0) Tryz.underlying26 zero3 rfl rfl (rb i) 0 n c (by omega) (fun j hj => by rw [Nat.zero_add, h.row i j hi hj]; rfl) (fun j hj => by rw [Nat.zero_add]; exact h.rfz i j hi)
end Go.Proofs.YthilkphnjffnhaaGreat

/- network.matrix, walked. -/
namespace Go.Proofs.YthilkphnjffnhaaGreat
open Go.RowKit Go.Shelf

theorem addR1_eq {M : Mn} {r : Rl} {p q t : Nat} (hp : r.p = p) (hq : r.q = q) (ht : r.t = t) : addR1 M r = updN M p q (M p q &&& t) := by unfold addR1; rw [hp, hq, ht]
theorem addR2_eq {M : Mn} {r : Rl} {p q t : Nat} (hp : r.p = p) (hq : r.q = q) (ht : r.t = t) : addR2 M r = updN (addR1 M r) q p (addR1 M r q p &&& invN t) := by unfold addR2; rw [hp, hq, ht]
theorem Mat.setN {w : World} {lo bm : Nat} {rb cp : Nat → Nat} {n : Nat} {M : Mn} (h : Mat w lo bm rb cp n n (castN M)) {i j : Nat} (hi : i < n) (hj : j < n) (x : Nat) : Mat (w.setCell ⟨rb i, j, none⟩ (.int .i64 ((x : Nat) : Int))) lo bm rb cp n n (castN (updN M i j x)) := by
  rw [← castN_upd]; exact h.set hi hj _

set_option maxRecDepth 100000 in
set_option maxHeartbeats 8000000 in
theorem matrix_any (n : Nat) (A : Option Addr) (c : Nat) (l : List Rl) (w : World) (hs : RdS Rl.enc 3 w A l) (hn1 : 1 ≤ n) (hn2 : n ≤ 8) (hr : ∀ r ∈ l, rlB n r = true) :
    Calls Tryz.prog 143 #[.int .i64 n, .slice A l.length c] w (NewMat w n (castN (matF l))) := by
  have hmk := make_rows n (by omega)
  have hn0 : (0 : Int) ≤ (n : Int) := by omega
  have hlen := hs.len
  have HR := Lib.hid hr; clear hr
  have HS := Lib.hid hs; clear hs
  go_enter Tryz.func143, Tryz.ntmps143
  go_wp2
  have HST := Lib.hid (rowsN_start w n)
  clear hmk
  go_loopg [14] n (fun gg s14 wr => ∃ k : Nat, k ≤ n ∧ n - k ≤ gg ∧ s14 = .int .i64 (k : Int) ∧ Aside (RowsN w wr n k))
  case atStart => exact ⟨0, Nat.zero_le _, by omega, rfl, HST.out⟩
  case round =>
    obtain ⟨k, hk, hg, rfl, HW⟩ := hrel
    clear HST
    by_cases hlt : k < n
    · have hltz : (k : Int) < (n : Int) := by omega
      obtain ⟨HB, ⟨rb, cp, HM⟩, HN⟩ := HW.out
      have hbm := HM.olt
      have HM' := Lib.hid HM; clear HM
      have HB' := Lib.hid HB; clear HB
      have HN' := Lib.hid HN; clear HN
      have hc : (wr.alloc (.cells #[.int .i64 8191] 3)).cell? ⟨wr.heap.size, 0, none⟩ = some (.int .i64 8191) := by simp
      have hrep := repeat_any 8191 n wr.heap.size 1 (by omega) (wr.alloc (.cells #[.int .i64 8191] 3)) hc (by simp)
      have HREP := Lib.hid hrep; clear hrep hc
      have HWH := Lib.hid HW; clear HW
      go_wp2_with fail
      refine (full_any _).mono ?_
      rintro e w' ⟨rfl, rfl⟩
      go_wp2_with fail
      refine HREP.out.mono ?_
      rintro e w1 ⟨g, rfl, hg1, hblk, hb1⟩
      have HBL := Lib.hid hblk; clear hblk
      have HB1 := Lib.hid hb1; clear hb1
      have HG1 := Lib.hid hg1; clear hg1
      clear HREP
      have hgne : g ≠ w.heap.size := by have := HG1.out; simp at this; omega
      have c1 : w1.cell? ⟨w.heap.size, k, none⟩ = some (.slice none 0 0) := by
        rw [HB1.out.cell (by simp; omega), World.cell?_alloc_lt _ _ _ hbm]; exact HN'.out k (Nat.le_refl _) hlt
      have f1 : w1.frozen? ⟨w.heap.size, k, none⟩ = false := by
        rw [HB1.out.frozen (by simp; omega), World.frozen?_of_block (w := wr) (Below.heap_alloc wr _ _ hbm)]; exact HM'.out.ofz k
      have c2 : w1.cell? ⟨g, k, none⟩ = some (.int .i64 8191) := by
        rw [cell_of_row _ _ _ _ _ _ HBL.out]; simp [hlt]
      have f2 : w1.frozen? ⟨g, k, none⟩ = false := by
        have := HBL.out; unfold Blk at this; simp [World.frozen?, this]
      have STEP : Aside (RowsN w _ n (k + 1)) := rowsN_step hlt HWH.out.out HG1.out HBL.out HB1.out
      clear HM' HB' HN' HBL HB1 HG1 HWH
      go_wp2
      go_roundg (n - (k + 1))
      case measure => omega
      case rel => exact ⟨k + 1, by omega, by omega, by go_num, STEP⟩
    · obtain rfl : n = k := by omega
      have hltz : ¬ (n : Int) < (n : Int) := by omega
      obtain ⟨w1, rfl⟩ : ∃ w1 : World, w1 = wr := ⟨_, rfl⟩
      obtain ⟨HB, ⟨rb, cp, HM⟩, _⟩ := HW.out
      have HB1 := Lib.hid HB; clear HB
      have HM1 := Lib.hid HM; clear HM HW
      clear hltz hlt hg hk
      go_wp2
      go_loopg [33] l.length (fun gg s33 wr => ∃ k : Nat, k ≤ l.length ∧ l.length - k ≤ gg ∧ s33 = .int .i64 (k : Int) ∧ Aside (Below w.heap.size w wr) ∧ Aside (Mat wr w.heap.size w.heap.size rb cp n n (castN (matF (l.take k)))))
      case atStart => exact ⟨0, Nat.zero_le _, by omega, rfl, HB1.out, HM1.out⟩
      case round =>
        obtain ⟨k, hk, hg, rfl, HB, HM⟩ := hrel
        clear HB1 HM1
        by_cases hlt : k < l.length
        · have hltz : (k : Int) < (l.length : Int) := by omega
          obtain ⟨b, off, rfl, hb, hc⟩ := HS.out.at_ k hlt
          have hrt := HR.out _ (List.getElem_mem hlt)
          have HT := Lib.hid (matF_take hlt)
          have HLT := Lib.hid (matF_lt (n := n) (l := l.take k) (fun r hr => rlB_iff.1 (HR.out r (List.mem_of_mem_take hr))))
          generalize matF (l.take k) = M at HM HT HLT
          generalize l[k] = r at hc hrt HT
          obtain ⟨q1, q2, q3, q4, q5, q6⟩ := rlB_iff.1 hrt
          obtain ⟨p, hp⟩ : ∃ p : Nat, p = r.p := ⟨_, rfl⟩
          obtain ⟨q, hq⟩ : ∃ q : Nat, q = r.q := ⟨_, rfl⟩
          obtain ⟨t, ht⟩ : ∃ t : Nat, t = r.t := ⟨_, rfl⟩
          have ei : r.i = (p : Int) := by rw [hp]; unfold Rl.p; omega
          have ej : r.j = (q : Int) := by rw [hq]; unfold Rl.q; omega
          have es : r.s = (t : Int) := by rw [ht]; unfold Rl.t; omega
          have hpn : p < n := by omega
          have hqn : q < n := by omega
          have htl : t < 8192 := by omega
          have c0 := hc 0 _ rfl
          have c1 := hc 1 _ rfl
          have c2 := hc 2 _ rfl
          rw [ei] at c0
          rw [ej] at c1
          rw [es] at c2
          simp only [Nat.add_zero] at c0
          have E1 := Lib.hid (addR1_eq (M := M) hp.symm hq.symm ht.symm)
          have E2 := Lib.hid (addR2_eq (M := M) hp.symm hq.symm ht.symm)
          have E3 := Lib.hid (show addR M r = if p = q ∧ addR2 M r p p = 0 then fun _ _ => 0 else addR2 M r by unfold addR; rw [hp, hq])
          have HL2 := Lib.hid (addR2_lt HLT.out (rlB_iff.1 hrt))
          have HLA := Lib.hid (show LtM n (addR1 M r) from HLT.out.upd _ _ (and_lt (HLT.out _ _ (by rw [← hp]; exact hpn) (by rw [← hq]; exact hqn))))
          have d0 := (HB.out.cell (p := ⟨b, off + k * 3, none⟩) hb).trans c0
          have d1 := (HB.out.cell (p := ⟨b, off + k * 3 + 1, none⟩) hb).trans c1
          have d2 := (HB.out.cell (p := ⟨b, off + k * 3 + 2, none⟩) hb).trans c2
          clear hrt q1 q2 q3 q4 q5 q6 hp hq ht ei ej es hc c0 c1 c2
          have BX := Lib.hid (Bx3.new wr p q t 51)
          have HMA := Lib.hid (HM.out.alloc (.cells #[.int .i64 (p : Int), .int .i64 (q : Int), .int .i64 (t : Int)] 51))
          have HBA := Lib.hid (show Below w.heap.size w (wr.alloc (.cells #[.int .i64 (p : Int), .int .i64 (q : Int), .int .i64 (t : Int)] 51)) from HB.out.alloc HB.out.size _)
          have hbb : wr.heap.size < wr.heap.size + 1 := by omega
          have o1 := HM.out.outer p hpn
          have r1 := HM.out.row p q hpn hqn
          have f1 := HM.out.rfz p q hpn
          have l1 := HM.out.olt
          have l2 := HM.out.rlt p hpn
          have l1' : w.heap.size < wr.heap.size + 1 := by omega
          have l2' : rb p < wr.heap.size + 1 := by omega
          have hMl := HLT.out p q hpn hqn
          unfold castN at r1
          have hand := and_i64 (M p q) t (by omega) (by omega)
          have STEP := Lib.hid (fun x => (HMA.out.ext x).setN hpn hqn (M p q &&& t))
          have hne : wr.heap.size ≠ rb p := by omega
          obtain ⟨v1, hv1⟩ : ∃ v, v = M p q &&& t := ⟨_, rfl⟩
          rw [← hv1] at hand STEP E1
          rw [← E1.out] at STEP
          have HNB := Lib.hid (show (∀ i, i < n → rb i ≠ wr.heap.size) ∧ w.heap.size < wr.heap.size from ⟨fun i hi => by have := HM.out.rlt i hi; omega, l1⟩)
          clear HM HB hv1
          go_wp2
          refine wp_region_ext_tail 13 (by kernel_rfl) (by kernel_rfl) ?_
          simp only [List.take_succ_cons, List.take_zero, List.drop_succ_cons, List.drop_zero]
          repeat (refine wpQuiet_step (fun K hK => ?_); go_simp; refine hK _ ?_; clear hK K)
          refine wpQuiet_nil ?_
          intro x0
          have HM2 := Lib.hid (STEP.out x0)
          have HB2 := Lib.hid (show Below w.heap.size w (((wr.alloc (.cells #[.int .i64 (p : Int), .int .i64 (q : Int), .int .i64 (t : Int)] 51)).ext x0).setCell ⟨rb p, q, none⟩ (.int .i64 ((v1 : Nat) : Int))) from (HBA.out.trans ((below_ext _ x0).mono HBA.out.size)).setCell (p := ⟨rb p, q, none⟩) (HMA.out.rlo p hpn) _)
          have BX2 := Lib.hid (show Bx3 wr.heap.size (((wr.alloc (.cells #[.int .i64 (p : Int), .int .i64 (q : Int), .int .i64 (t : Int)] 51)).ext x0).setCell ⟨rb p, q, none⟩ (.int .i64 ((v1 : Nat) : Int))) p q t from (BX.out.below (below_ext _ x0)).set (by show rb p ≠ wr.heap.size; omega) _)
          clear STEP BX HBA d0 d1 d2 o1 hMl hand hbb
          obtain ⟨bx, hbx⟩ : ∃ bx, bx = wr.heap.size := ⟨_, rfl⟩
          rw [← hbx] at BX2 HNB
          go_wp2
          generalize ((wr.alloc (.cells #[.int .i64 (p : Int), .int .i64 (q : Int), .int .i64 (t : Int)] 51)).ext x0).setCell ⟨rb p, q, none⟩ (.int .i64 ((v1 : Nat) : Int)) = w2 at *
          rw [← hbx]
          clear hbx HMA E1 r1 f1 l1 l2 l1' l2' hne
          have o1 := HM2.out.outer q hqn
          have r1 := HM2.out.row q p hqn hpn
          have f1 := HM2.out.rfz q p hqn
          have l1 := HM2.out.olt
          have l2 := HM2.out.rlt q hqn
          have b0 := BX2.out.c0
          have b1 := BX2.out.c1
          have b2 := BX2.out.c2
          have b3 := BX2.out.lt
          have n1 := HNB.out.1 q hqn
          have hMl := HLA.out q p hqn hpn
          unfold castN at r1
          have hand := and_i64 (addR1 M r q p) (invN t) (by omega) (by have := invN_lt t; omega)
          have STEP := Lib.hid (fun x => (HM2.out.ext x).setN hqn hpn (addR1 M r q p &&& invN t))
          have BSTEP := Lib.hid (fun (x : Xt) (v : Value) => (BX2.out.below (below_ext w2 x)).set (p := ⟨rb q, p, none⟩) n1 v)
          have HINV := Lib.hid (inverse_any t htl)
          obtain ⟨v2, hv2⟩ : ∃ v, v = addR1 M r q p &&& invN t := ⟨_, rfl⟩
          obtain ⟨ti, hti⟩ : ∃ v, v = invN t := ⟨_, rfl⟩
          rw [← hv2] at hand STEP E2
          rw [← hti] at hand HINV
          rw [← E2.out] at STEP
          clear hv2 hti E2
          refine wp_region_ext_tail 14 (by kernel_rfl) (by kernel_rfl) ?_
          simp only [List.take_succ_cons, List.take_zero, List.drop_succ_cons, List.drop_zero]
          repeat (refine wpQuiet_step (fun K hK => ?_); go_simp; refine hK _ ?_; clear hK K)
          refine wpQuiet_step (fun K hK => ?_)
          go_simp
          apply Exists.intro
          refine ⟨fun _ => ?_, hK _ ?_⟩
          · exact calls_ext (HINV.out _)
          clear hK K
          repeat (refine wpQuiet_step (fun K hK => ?_); go_simp; refine hK _ ?_; clear hK K)
          refine wpQuiet_nil ?_
          intro x1
          have HM3 := Lib.hid (STEP.out x1)
          have BX3 := Lib.hid (BSTEP.out x1 (.int .i64 ((v2 : Nat) : Int)))
          have HB3 := Lib.hid (show Below w.heap.size w ((w2.ext x1).setCell ⟨rb q, p, none⟩ (.int .i64 ((v2 : Nat) : Int))) from (HB2.out.trans ((below_ext _ x1).mono HB2.out.size)).setCell (p := ⟨rb q, p, none⟩) (HM2.out.rlo q hqn) _)
          clear STEP BSTEP HINV hand hMl o1 b0 b1 b2 HM2 HB2 BX2
          go_wp2
          generalize (w2.ext x1).setCell ⟨rb q, p, none⟩ (.int .i64 ((v2 : Nat) : Int)) = w3 at *
          clear r1 f1 l1 l2 b3 n1 HLA
          have b0 := BX3.out.c0
          have b1 := BX3.out.c1
          have b3 := BX3.out.lt
          by_cases hpq : p = q
          · subst hpq
            have o1 := HM3.out.outer p hpn
            have r1 := HM3.out.row p p hpn hpn
            have l1 := HM3.out.olt
            have l2 := HM3.out.rlt p hpn
            unfold castN at r1
            have e1 : ((p : Int) == (p : Int)) = true := by simp
            obtain ⟨z, hz⟩ : ∃ z, z = addR2 M r p p := ⟨_, rfl⟩
            rw [← hz] at r1 E3
            by_cases h0 : z = 0
            · have E4 := Lib.hid (show addR M r = fun _ _ => 0 by rw [E3.out, if_pos ⟨rfl, h0⟩])
              subst h0
              clear E3 hz
              go_quiet (fail)
              have HM4 := Lib.hid (HM3.out.below (below_drewN (Below.refl _ _) nq))
              have HB4 := Lib.hid (below_drewN HB3.out nq)
              have HZ0 := Lib.hid (show castN (addR2 M r) = castN (fun a b => if a < 0 then 0 else addR2 M r a b) by simp)
              clear HM3 HB3 BX3 o1 r1 l1 l2 b0 b1 b3
              generalize w3.drewN nq = w4 at *
              go_wp2
              go_loopg [83] n (fun gg s83 wr => ∃ i : Nat, i ≤ n ∧ n - i ≤ gg ∧ s83 = .int .i64 (i : Int) ∧ Aside (Below w.heap.size w wr) ∧ Aside (Mat wr w.heap.size w.heap.size rb cp n n (castN (fun a b => if a < i then 0 else addR2 M r a b))))
              case atStart => exact ⟨0, Nat.zero_le _, by omega, rfl, HB4.out, by rw [← HZ0.out]; exact HM4.out⟩
              case round =>
                obtain ⟨i, hi, hgi, rfl, HBi, HMi⟩ := hrel
                clear HM4 HB4 HZ0
                by_cases hlti : i < n
                · have hltzi : (i : Int) < (n : Int) := by omega
                  have o1 := HMi.out.outer i hlti
                  have hcl := clear_any HMi.out hlti hn1 (cp i)
                  have HM5 : Aside (Mat (wr.setCells (rb i) 0 (List.replicate n (.int .i64 0))) w.heap.size w.heap.size rb cp n n (castN (fun a b => if a < i + 1 then 0 else addR2 M r a b))) :=
                    (zero_row hlti n 0 wr _ (by omega) HMi.out).congr fun a b _ _ => by
                      simp only [castN]
                      by_cases e : a = i
                      · rw [if_pos ⟨e, Nat.zero_le _⟩, if_pos (by omega)]; rfl
                      · rw [if_neg (fun h => e h.1)]
                        by_cases e2 : a < i
                        · rw [if_pos e2, if_pos (by omega)]
                        · rw [if_neg e2, if_neg (by omega)]
                  have HB5 : Aside (Below w.heap.size w (wr.setCells (rb i) 0 (List.replicate n (.int .i64 0)))) := setCells_low (rb i) (HMi.out.rlo i hlti) _ _ _ HBi.out
                  clear HMi HBi
                  go_wp2
                  go_roundg (n - (i + 1))
                  case measure => omega
                  case rel => exact ⟨i + 1, by omega, by omega, by go_num, HB5, HM5⟩
                · obtain rfl : n = i := by omega
                  have hltzi : ¬ (n : Int) < (n : Int) := by omega
                  have HM5 : Aside (Mat wr w.heap.size w.heap.size rb cp n n (castN (matF (l.take (k + 1))))) :=
                    HMi.out.congr fun a b ha hb => by
                      rw [HT.out, E4.out]
                      simp only [castN]
                      rw [if_pos ha]
                  clear HMi HT E4
                  go_wp2
                  go_roundg (l.length - (k + 1))
                  case measure => omega
                  case rel => exact ⟨k + 1, by omega, by omega, by go_num, HBi, HM5⟩
            · have E4 := Lib.hid (show addR M r = addR2 M r by rw [E3.out, if_neg (fun h => h0 h.2)])
              have e0 : ((z : Int) == 0) = false := by simpa using h0
              clear E3 hz h0
              go_quiet (fail)
              have HM4 : Aside (Mat (w3.drewN nq) w.heap.size w.heap.size rb cp n n (castN (matF (l.take (k + 1))))) := by
                rw [HT.out, E4.out]; exact HM3.out.below (below_drewN (Below.refl _ _) nq)
              have HB4 : Aside (Below w.heap.size w (w3.drewN nq)) := below_drewN HB3.out nq
              clear HM3 HB3 BX3 HT E4
              go_wp2
              go_roundg (l.length - (k + 1))
              case measure => omega
              case rel => exact ⟨k + 1, by omega, by omega, by go_num, HB4, HM4⟩
          · have e1 : ((p : Int) == (q : Int)) = false := by simp; omega
            have e2 : decide (p = q) = false := by simpa using hpq
            have E4 := Lib.hid (show addR M r = addR2 M r by rw [E3.out, if_neg (fun h => hpq h.1)])
            clear E3
            go_quiet (fail)
            have HM4 : Aside (Mat (w3.drewN nq) w.heap.size w.heap.size rb cp n n (castN (matF (l.take (k + 1))))) := by
              rw [HT.out, E4.out]; exact HM3.out.below (below_drewN (Below.refl _ _) nq)
            have HB4 : Aside (Below w.heap.size w (w3.drewN nq)) := below_drewN HB3.out nq
            clear HM3 HB3 BX3 HT E4
            go_wp2
            go_roundg (l.length - (k + 1))
            case measure => omega
            case rel => exact ⟨k + 1, by omega, by omega, by go_num, HB4, HM4⟩
        · obtain rfl : k = l.length := by omega
          have hltz : ¬ (l.length : Int) < (l.length : Int) := by omega
          have HEND := Lib.hid (show NewMat w n (castN (matF l)) (.returned (.slice (some ⟨w.heap.size, 0, none⟩) n n)) wr from ⟨_, rb, cp, rfl, by have := HM.out; rwa [List.take_length] at this, HB.out⟩)
          clear HM HB
          go_wp2
          go_ret
          exact HEND.out
end Go.Proofs.YthilkphnjffnhaaGreat
