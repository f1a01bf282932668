/- bounds.tight computes tightF. -/
import Derived.Test.YthilkphnjffnhaaGreatWlk
import Derived.Test.YthilkphnjffnhaaGreatExt
set_option linter.unusedSimpArgs false
set_option linter.unusedVariables false
namespace Go.Proofs.YthilkphnjffnhaaGreat
open Go.RowKit Go.Shelf

theorem make_rows (m : Nat) (hm : m ≤ 1048576) (W : World) : (Instr.makeSlice 31 (.int .i64 (m : Int)) (.int .i64 (m : Int))).run Tryz.prog W = .ok (.slice (some ⟨W.heap.size, 0, none⟩) m m) (W.alloc (.cells (List.replicate m (.slice none 0 0)).toArray 26)) := by
  have hinfo : (Tryz.prog.info? 26).map (fun i => (i.zero, i.size, i.bytes)) = some (some (.slice none 0 0), 1, 24) := by kernel_rfl
  obtain ⟨i0, hi, hz0, hz1, hz2⟩ := info_parts hinfo
  have h := run_make (P := Tryz.prog) W 31 26 i0 (.slice none 0 0) Tryz.underlying31 hi hz0 .i64 .i64 m m (by omega) (by omega) (by rw [hz2]; omega) (by omega)
  rw [h, hz1]
  simp only [Int.toNat_natCast, Nat.mul_one]
  have : madeCells (Value.slice none 0 0).cells m = (List.replicate m (.slice none 0 0)).toArray := by
    rw [← toList_madeCells_one]
    rfl
  rw [this]

def TightPost (w : World) (n : Nat) (r : Option Mx) (e : Ending) (w' : World) : Prop :=
  Below w.heap.size w w' ∧
  match r with
  | none => e = .returned (.tuple #[.slice none 0 0, .bool false])
  | some M => ∃ bm rb cp, e = .returned (.tuple #[.slice (some ⟨bm, 0, none⟩) n n, .bool true]) ∧ Mat w' w.heap.size bm rb cp n n M

/-- ahead of row k -/
def Rows1 (w wr : World) (n k : Nat) : Prop :=
  Below w.heap.size w wr ∧ (∃ rb cp, Mat wr w.heap.size w.heap.size rb cp k n initM) ∧ ∀ i, k ≤ i → i < n → wr.cell? ⟨w.heap.size, i, none⟩ = some (.slice none 0 0)

theorem Mat.none_ {w : World} {lo bm : Nat} (h1 : lo ≤ bm) (h2 : bm < w.heap.size) (hf : ∀ i, w.frozen? ⟨bm, i, none⟩ = false) (rb cp : Nat → Nat) (n : Nat) (M : Mx) : Mat w lo bm rb cp 0 n M :=
  ⟨h1, h2, fun i hi => absurd hi (by omega), hf, fun i hi => absurd hi (by omega), fun i hi => absurd hi (by omega), fun i hi => absurd hi (by omega), fun i j hi => absurd hi (by omega), fun i j hi => absurd hi (by omega), fun i j hi => absurd hi (by omega)⟩
theorem rows1_start (w : World) (n : Nat) : Rows1 w (w.alloc (.cells (List.replicate n (.slice none 0 0)).toArray 26)) n 0 := by
  refine ⟨(Below.refl _ _).alloc (Nat.le_refl _) _, ⟨fun _ => 0, fun _ => 0, Mat.none_ (Nat.le_refl _) (by simp) (fun i => ?_) _ _ _ _⟩, fun i _ hi => ?_⟩
  · unfold World.frozen?
    rw [heap_alloc_new]
    simp
  · rw [World.cell?_alloc_new]; simp [hi]
theorem rows1_step {w wr w1 : World} {n k g : Nat} {o : Obj} (hk : k < n) (h : Rows1 w wr n k) (hg : (wr.alloc o).heap.size ≤ g) (hblk : Blk w1 g 3 (List.replicate n (.int .i64 4398046511104))) (hb : Below (wr.alloc o).heap.size (wr.alloc o) w1) :
    Rows1 w ((w1.setCell ⟨w.heap.size, k, none⟩ (.slice (some ⟨g, 0, none⟩) n n)).setCell ⟨g, k, none⟩ (.int .i64 0)) n (k + 1) := by
  obtain ⟨HB, ⟨rb, cp, HM⟩, HN⟩ := h
  have hsz : (wr.alloc o).heap.size = wr.heap.size + 1 := by simp
  have hbm := HM.olt
  have M1 := (HM.alloc o).below hb
  have hgl : g < w1.heap.size := (Array.getElem?_eq_some_iff.1 hblk).1
  have hcell : ∀ i, k ≤ i → i < n → w1.cell? ⟨w.heap.size, i, none⟩ = some (.slice none 0 0) := fun i h1 h2 => by
    rw [hb.cell (by simp; omega), World.cell?_alloc_lt _ _ _ hbm]; exact HN i h1 h2
  have hgne : g ≠ w.heap.size := by omega
  have M2 := M1.grow (g := g) (x := 4398046511104) (by omega) (fun i hi => by have := HM.rlt i hi; omega) hgne (hcell k (Nat.le_refl _) hk) (c := n) hgl
    (fun j hj => by rw [cell_of_row _ _ _ _ _ _ hblk]; simp [hj]) (fun j => by have := hblk; unfold Blk at this; simp [World.frozen?, this])
  have M3 := M2.set (i := k) (j := k) (by omega) hk 0
  simp only [if_true] at M3
  refine ⟨?_, ⟨_, _, M3.congr ?_⟩, ?_⟩
  · refine Below.setCell (Below.setCell (HB.trans (((Below.refl wr.heap.size wr).alloc (Nat.le_refl _) o |>.trans (hb.mono (by omega))).mono ?_)) ?_ _) ?_ _
    · exact HB.size
    · exact Nat.le_refl _
    · have := HB.size; show w.heap.size ≤ g; omega
  · intro i j hi hj
    simp only [upd, initM]
    by_cases e : i = k
    · subst e
      by_cases e' : j = i
      · subst e'; simp
      · rw [if_neg (by omega), if_pos rfl, if_neg (by omega)]
    · rw [if_neg (by omega), if_neg e]
  · intro i h1 h2
    rw [World.cell?_setCell_other _ _ _ _ (fun e => hgne (congrArg Addr.block e)), World.cell?_setCell_other _ _ _ _ (fun e => by have := congrArg Addr.off e; simp at this; omega)]
    exact hcell i (by omega) h2

theorem low_any {wr : World} {lo bm n : Nat} {rb cp : Nat → Nat} {M : Mx} (h : Mat wr lo bm rb cp n n M) (h1 : 1 ≤ n) (h2 : n ≤ 24) :
    Calls Tryz.prog 134 #[.slice (some ⟨bm, 0, none⟩) n n, .func (.func 135) #[] #[]] wr fun e w' => e = .returned (.bool (lowM n M)) ∧ Below wr.heap.size wr w' := by
  have := containsFunc134 135 #[] (enters_of Tryz.func135 (by kernel_rfl) rfl) (fun r => lowB r.l) (some ⟨bm, 0, none⟩) n _ wr (h.rows (by omega)) (fun x hx W hW => by
    obtain ⟨i, hi, rfl⟩ := List.mem_map.1 hx
    have hi := List.mem_range.1 hi
    have := tight1_any (some ⟨rb i, 0, none⟩) (cp i) ((List.range n).map (M i)) W ((h.below hW).rowRd (by omega) hi) (by simp; omega)
    exact this)
  rw [List.length_map, List.length_range] at this
  refine this.mono ?_
  rintro e w' ⟨rfl, hb⟩
  refine ⟨?_, hb⟩
  rw [List.any_map]
  unfold lowM rowsOf
  rw [List.any_map]
  rfl

/-- one bound more -/
theorem add_step {w wr : World} {bm n : Nat} {rb cp : Nat → Nat} {M : Mx} {i j : Nat} {bw : Int} (hi : i < n) (hj : j < n) (hB : Below w.heap.size w wr) (h : Mat wr w.heap.size bm rb cp n n M) (o : Obj) (x : Xt) (r : Int)
    (hr : r = min (M i j) bw) : Below w.heap.size w (((wr.alloc o).ext x).setCell ⟨rb i, j, none⟩ (.int .i64 r)) ∧ Mat (((wr.alloc o).ext x).setCell ⟨rb i, j, none⟩ (.int .i64 r)) w.heap.size bm rb cp n n (addB M ⟨i, j, bw⟩) := by
  subst hr
  have hm := ((h.alloc o).ext x).set hi hj (min (M i j) bw)
  refine ⟨((hB.alloc hB.size o).trans ((below_ext _ x).mono (by have := hB.size; simp; omega))).setCell (h.rlo i hi) _, hm⟩
/-- one place relaxed -/
theorem relax_step {w wr : World} {bm n : Nat} {rb cp : Nat → Nat} {M : Mx} {i j k : Nat} (hi : i < n) (hj : j < n) (hB : Below w.heap.size w wr) (h : Mat wr w.heap.size bm rb cp n n M) (x : Xt) (r : Int)
    (hr : r = min (M i j) (plusD (M i k) (M k j))) : Below w.heap.size w ((wr.ext x).setCell ⟨rb i, j, none⟩ (.int .i64 r)) ∧ Mat ((wr.ext x).setCell ⟨rb i, j, none⟩ (.int .i64 r)) w.heap.size bm rb cp n n (relax1 k i j M) := by
  subst hr
  have hm := (h.ext x).set hi hj (min (M i j) (plusD (M i k) (M k j)))
  exact ⟨(hB.trans ((below_ext _ x).mono hB.size)).setCell (h.rlo i hi) _, hm⟩

theorem fw_none {n : Nat} {M : Mx} {k : Nat} (h : fw n k M = none) : ∀ m, k ≤ m → fw n m M = none := by
  intro m hm
  induction m with
  | zero => have : k = 0 := by omega
            subst this; exact h
  | succ m ih =>
    by_cases e : k = m + 1
    · subst e; exact h
    · simp only [fw]; rw [ih (by omega)]; rfl
theorem fw_low {n k : Nat} {M M' : Mx} (h : fw n k M = some M') (hl : lowM n (relaxK n k M') = true) : fw n (k + 1) M = none := by
  simp only [fw]; rw [h]; simp [hl]
theorem fw_go {n k : Nat} {M M' : Mx} (h : fw n k M = some M') (hl : lowM n (relaxK n k M') = false) : fw n (k + 1) M = some (relaxK n k M') := by
  simp only [fw]; rw [h]; simp [hl]
theorem tight_none {w w' : World} {n : Nat} {l : List Bd} (h : fw n n (addAll l) = none) (hb : Below w.heap.size w w') : TightPost w n (tightF n l) (.returned (.tuple #[.slice none 0 0, .bool false])) w' := by
  unfold TightPost tightF
  rw [h]
  exact ⟨hb, rfl⟩
theorem tight_diag {w w' : World} {n : Nat} {l : List Bd} {M : Mx} {i : Nat} (h : fw n n (addAll l) = some M) (hi : i < n) (hd : M i i < 0) (hb : Below w.heap.size w w') : TightPost w n (tightF n l) (.returned (.tuple #[.slice none 0 0, .bool false])) w' := by
  unfold TightPost tightF
  rw [h]
  have : diagB n M = true := List.any_eq_true.2 ⟨i, List.mem_range.2 hi, by simpa using hd⟩
  simp only [Option.bind_some, this, if_true]
  exact ⟨hb, trivial⟩
theorem tight_some {w w' : World} {n : Nat} {l : List Bd} {M : Mx} {bm : Nat} {rb cp : Nat → Nat} (h : fw n n (addAll l) = some M) (hd : ∀ i, i < n → 0 ≤ M i i) (hb : Below w.heap.size w w') (hm : Mat w' w.heap.size bm rb cp n n M) :
    TightPost w n (tightF n l) (.returned (.tuple #[.slice (some ⟨bm, 0, none⟩) n n, .bool true])) w' := by
  unfold TightPost tightF
  rw [h]
  have : diagB n M = false := by
    unfold diagB; rw [List.any_eq_false]; intro i hi; have := hd i (List.mem_range.1 hi); simp; omega
  simp only [Option.bind_some, this]
  exact ⟨hb, bm, rb, cp, rfl, hm⟩

set_option maxRecDepth 100000 in
set_option maxHeartbeats 8000000 in
theorem tight_any (n : Nat) (A : Option Addr) (c : Nat) (l : List Bd) (w : World) (hs : RdS Bd.enc 3 w A l) (hn1 : 1 ≤ n) (hn2 : n ≤ 24) (hl : l.length ≤ 1000) (hr : ∀ b ∈ l, rightB n b = true) :
    Calls Tryz.prog 70 #[.int .i64 n, .slice A l.length c] w (TightPost w n (tightF n l)) := by
  have hmk := make_rows n (by omega)
  have hn0 : (0 : Int) ≤ (n : Int) := by omega
  have HR := Lib.hid hr; clear hr
  go_enter Tryz.func70, Tryz.ntmps70
  go_wp2
  go_loopg [18] n (fun gg s18 wr => ∃ k : Nat, k ≤ n ∧ n - k ≤ gg ∧ s18 = .int .i64 k ∧ Aside (Rows1 w wr n k))
  case atStart => exact ⟨0, Nat.zero_le _, by omega, rfl, rows1_start w n⟩
  case round =>
    obtain ⟨k, hk, hg, rfl, HW⟩ := hrel
    clear hmk
    by_cases hlt : k < n
    · have hltz : (k : Int) < (n : Int) := by omega
      obtain ⟨HB, ⟨rb, cp, HM⟩, HN⟩ := HW.out
      have hbm := HM.olt
      have HM' := Lib.hid HM; clear HM
      have HB' := Lib.hid HB; clear HB
      have HN' := Lib.hid HN; clear HN
      have hc : (wr.alloc (.cells #[.int .i64 4398046511104] 3)).cell? ⟨wr.heap.size, 0, none⟩ = some (.int .i64 4398046511104) := by simp
      have hrep := repeat_any 4398046511104 n wr.heap.size 1 (by omega) (wr.alloc (.cells #[.int .i64 4398046511104] 3)) hc (by simp)
      have HREP := Lib.hid hrep; clear hrep hc
      go_wp2_with fail
      refine HREP.out.mono ?_
      rintro e w1 ⟨g, rfl, hg1, hblk, hb1⟩
      have HBL := Lib.hid hblk; clear hblk
      have HB1 := Lib.hid hb1; clear hb1
      have HG1 := Lib.hid hg1; clear hg1
      clear HREP
      have hgne : g ≠ w.heap.size := by have := HG1.out; simp at this; omega
      have c1 : w1.cell? ⟨w.heap.size, k, none⟩ = some (.slice none 0 0) := by
        rw [HB1.out.cell (by simp; omega), World.cell?_alloc_lt _ _ _ hbm]; exact HN'.out k (Nat.le_refl _) hlt
      have f1 : w1.frozen? ⟨w.heap.size, k, none⟩ = false := by
        rw [HB1.out.frozen (by simp; omega), World.frozen?_of_block (w := wr) (Below.heap_alloc wr _ _ hbm)]; exact HM'.out.ofz k
      have c2 : w1.cell? ⟨g, k, none⟩ = some (.int .i64 4398046511104) := by
        rw [cell_of_row _ _ _ _ _ _ HBL.out]; simp [hlt]
      have f2 : w1.frozen? ⟨g, k, none⟩ = false := by
        have := HBL.out; unfold Blk at this; simp [World.frozen?, this]
      have STEP : Aside (Rows1 w _ n (k + 1)) := rows1_step hlt HW.out HG1.out HBL.out HB1.out
      clear HM' HB' HN' HBL HB1 HG1 HW
      go_wp2
      go_roundg (n - (k + 1))
      case measure => omega
      case rel => exact ⟨k + 1, by omega, by omega, by go_num, STEP⟩
    · have hltz : ¬ (k : Int) < (n : Int) := by omega
      obtain rfl : n = k := by omega
      obtain ⟨w1, rfl⟩ : ∃ w1 : World, w1 = wr := ⟨_, rfl⟩
      obtain ⟨HB, ⟨rb, cp, HM⟩, _⟩ := HW.out
      have HB1 := Lib.hid HB; clear HB
      have HM1 := Lib.hid HM; clear HM HW
      clear hltz hlt hg hk
      go_wp2
      go_loopg [36] l.length (fun gg s36 wr => ∃ k : Nat, k ≤ l.length ∧ l.length - k ≤ gg ∧ s36 = .int .i64 k ∧ Aside (Below w.heap.size w wr) ∧ Aside (Mat wr w.heap.size w.heap.size rb cp n n ((l.take k).foldl addB initM)))
      case atStart => exact ⟨0, Nat.zero_le _, by omega, rfl, HB1.out, HM1.out⟩
      case round =>
        obtain ⟨k, hk, hg, rfl, HB, HM⟩ := hrel
        clear HB1 HM1
        by_cases hlt : k < l.length
        · have hltz : (k : Int) < (l.length : Int) := by omega
          obtain ⟨b, off, rfl, hb, hc⟩ := hs.at_ k hlt
          have hrt := HR.out _ (List.getElem_mem hlt)
          have htake : (l.take (k + 1)).foldl addB initM = addB ((l.take k).foldl addB initM) l[k] := by
            rw [List.take_succ_eq_append_getElem hlt, List.foldl_append]; rfl
          have HT := Lib.hid htake; clear htake
          generalize (l.take k).foldl addB initM = M at HM HT
          generalize l[k] = bd at hc hrt HT
          obtain ⟨bi, bj, bw⟩ := bd
          obtain ⟨h1, h2, h3, h4, h5, h6⟩ := rightB_iff.1 hrt
          simp only at h1 h2 h3 h4 h5 h6
          obtain ⟨i, rfl⟩ := Int.eq_ofNat_of_zero_le h1
          obtain ⟨j, rfl⟩ := Int.eq_ofNat_of_zero_le h3
          clear hrt hs
          have h2' : i < n := by omega
          have h4' : j < n := by omega
          have STEP := Lib.hid (fun x r => add_step (bw := bw) h2' h4' HB.out HM.out (.cells #[.int .i64 i, .int .i64 j, .int .i64 bw] 29) x r)
          have c0 := (HB.out.cell (p := ⟨b, off + k * 3, none⟩) hb).trans (hc 0 _ rfl)
          have c1 := (HB.out.cell (p := ⟨b, off + k * 3 + 1, none⟩) hb).trans (hc 1 _ rfl)
          have c2 := (HB.out.cell (p := ⟨b, off + k * 3 + 2, none⟩) hb).trans (hc 2 _ rfl)
          have o1 := HM.out.outer i h2'
          have r1 := HM.out.row i j h2' h4'
          have f1 := HM.out.rfz i j h2'
          have l1 := HM.out.olt
          have l2 := HM.out.rlt i h2'
          have l1' : w.heap.size < wr.heap.size + 1 := by omega
          have l2' : rb i < wr.heap.size + 1 := by omega
          clear hc
          go_wp2
          refine wp_region_ext_tail 20 (by kernel_rfl) (by kernel_rfl) ?_
          simp only [List.take_succ_cons, List.take_zero, List.drop_succ_cons, List.drop_zero]
          repeat (refine wpQuiet_step (fun K hK => ?_); go_simp; refine hK _ ?_; clear hK K)
          refine wpQuiet_nil ?_
          intro x
          clear HB HM
          go_wp2
          all_goals
            go_roundg (l.length - (k + 1))
            case measure => omega
            case rel =>
              refine ⟨k + 1, by omega, by omega, by go_num, ?_, ?_⟩
              · exact (STEP.out x _ (by omega)).1
              · rw [HT.out]; exact (STEP.out x _ (by omega)).2
        · have hltz : ¬ (k : Int) < (l.length : Int) := by omega
          have hkl : k = l.length := by omega
          rw [hkl, List.take_length] at HM
          have HM2 : Aside (Mat wr w.heap.size w.heap.size rb cp n n (addAll l)) := HM
          clear HM hkl hg hk hlt
          obtain ⟨w2, rfl⟩ : ∃ w2 : World, w2 = wr := ⟨_, rfl⟩
          have HB2 := HB
          clear HB hs
          go_wp2
          go_loopg [62] n (fun gg s62 wr => ∃ k : Nat, k ≤ n ∧ n - k ≤ gg ∧ s62 = .int .i64 k ∧ Aside (Below w.heap.size w wr) ∧ ∃ M, Aside (fw n k (addAll l) = some M) ∧ Aside (Mat wr w.heap.size w.heap.size rb cp n n M))
          case atStart => exact ⟨0, Nat.zero_le _, by omega, rfl, HB2.out, addAll l, rfl, HM2.out⟩
          case round =>
            obtain ⟨k, hk, hg, rfl, HB, M, HF, HM⟩ := hrel
            clear HB2 HM2
            by_cases hlt : k < n
            · have hltz : (k : Int) < (n : Int) := by omega
              have hin := Lib.hid (fw_in (addAll_in HR.out) k hk M HF.out)
              obtain ⟨w3, rfl⟩ : ∃ w3 : World, w3 = wr := ⟨_, rfl⟩
              go_wp2
              go_loopg [66] n (fun gg s66 wr => ∃ i : Nat, i ≤ n ∧ n - i ≤ gg ∧ s66 = .int .i64 i ∧ Aside (Below w.heap.size w wr) ∧ Aside (Mat wr w.heap.size w.heap.size rb cp n n (iter (relaxR n k) i M)))
              case atStart => exact ⟨0, Nat.zero_le _, by omega, rfl, HB.out, HM.out⟩
              case round =>
                obtain ⟨i, hi, hg4, rfl, HB4, HM4⟩ := hrel
                by_cases hlt4 : i < n
                · have hltz4 : (i : Int) < (n : Int) := by omega
                  obtain ⟨w4, rfl⟩ : ∃ w4 : World, w4 = wr := ⟨_, rfl⟩
                  have HWI := Lib.hid ((Within.start hin.out hlt).iterK hlt i hi)
                  generalize hMi : iter (relaxR n k) i M = Mi at *
                  have HMI := Lib.hid hMi; clear hMi
                  go_wp2
                  go_loopg [70] n (fun gg s70 wr => ∃ j : Nat, j ≤ n ∧ n - j ≤ gg ∧ s70 = .int .i64 j ∧ Aside (Below w.heap.size w wr) ∧ Aside (Mat wr w.heap.size w.heap.size rb cp n n (iter (relax1 k i) j Mi)))
                  case atStart => exact ⟨0, Nat.zero_le _, by omega, rfl, HB4.out, HM4.out⟩
                  case round =>
                    obtain ⟨j, hj, hg5, rfl, HB5, HM5⟩ := hrel
                    clear HB4 HM4
                    by_cases hlt5 : j < n
                    · have hltz5 : (j : Int) < (n : Int) := by omega
                      have hw5 := HWI.out.iterR hlt hlt4 j hj
                      have hM5 := Lib.hid (show iter (relax1 k i) (j + 1) Mi = relax1 k i j (iter (relax1 k i) j Mi) from rfl)
                      generalize iter (relax1 k i) j Mi = M5 at *
                      have p1 := hw5.all i k hlt4 hlt
                      have p2 := hw5.up i k hlt4 hlt
                      have p3 := hw5.all k j hlt hlt5
                      have p4 := hw5.up k j hlt hlt5
                      have o1 := HM5.out.outer i hlt4
                      have o2 := HM5.out.outer k hlt
                      have r1 := HM5.out.row i j hlt4 hlt5
                      have r2 := HM5.out.row i k hlt4 hlt
                      have r3 := HM5.out.row k j hlt hlt5
                      have f1 := HM5.out.rfz i j hlt4
                      have l1 := HM5.out.olt
                      have l2 := HM5.out.rlt i hlt4
                      have l3 := HM5.out.rlt k hlt
                      have STEP := Lib.hid (fun x r => relax_step (k := k) hlt4 hlt5 HB5.out HM5.out x r)
                      clear HB5 HM5 hw5
                      go_wp2
                      refine wp_region_ext_tail 29 (by kernel_rfl) (by kernel_rfl) ?_
                      simp only [List.take_succ_cons, List.take_zero, List.drop_succ_cons, List.drop_zero]
                      repeat (refine wpQuiet_step (fun K hK => ?_); go_simp; first | (refine hK _ ?_; clear hK K) | (apply Exists.intro; refine ⟨fun _ => ?_, hK _ ?_⟩; (exact calls_ext_same (plus_any _ _ _ (by omega) (by omega) (by omega) (by omega))); clear hK K))
                      refine wpQuiet_nil ?_
                      intro x
                      go_wp2
                      all_goals
                        go_roundg (n - (j + 1))
                        case measure => omega
                        case rel =>
                          refine ⟨j + 1, by omega, by omega, by go_num, ?_, ?_⟩
                          · exact (STEP.out x _ (by omega)).1
                          · rw [hM5.out]; exact (STEP.out x _ (by omega)).2
                    · have hltz5 : ¬ (j : Int) < (n : Int) := by omega
                      obtain rfl : n = j := by omega
                      have hend : Aside (Mat wr w.heap.size w.heap.size rb cp n n (iter (relaxR n k) (i + 1) M)) := by
                        show Mat wr w.heap.size w.heap.size rb cp n n (relaxR n k i (iter (relaxR n k) i M))
                        rw [HMI.out]; exact HM5.out
                      clear HM5 HMI HWI
                      go_wp2
                      go_roundg (n - (i + 1))
                      case measure => omega
                      case rel => exact ⟨i + 1, by omega, by omega, by go_num, HB5, hend⟩
                · have hltz4 : ¬ (i : Int) < (n : Int) := by omega
                  obtain rfl : n = i := by omega
                  have hlow := low_any HM4.out hn1 hn2
                  have hnext := Lib.hid (fun h => fw_go (M := addAll l) HF.out h)
                  have hstop := Lib.hid (fun (W : World) h => tight_none (w := w) (w' := W) (fw_none (fw_low (M := addAll l) HF.out h) n (by omega)))
                  cases hc : lowM n (relaxK n k M) with
                  | true =>
                    have hlow' : Calls Tryz.prog 134 #[.slice (some ⟨w.heap.size, 0, none⟩) n n, .func (.func 135) #[] #[]] wr fun e w' => e = .returned (.bool true) ∧ Below wr.heap.size wr w' := by
                      rw [← hc]; exact hlow
                    have HC := Lib.hid hc; clear hc hlow
                    go_wp2_with (go_at_call 134; refine hlow'.mono ?_; rintro e w' ⟨rfl, hb'⟩)
                    go_ret2
                    exact hstop.out _ HC.out (HB4.out.trans (hb'.mono HB4.out.size))
                  | false =>
                    have hlow' : Calls Tryz.prog 134 #[.slice (some ⟨w.heap.size, 0, none⟩) n n, .func (.func 135) #[] #[]] wr fun e w' => e = .returned (.bool false) ∧ Below wr.heap.size wr w' := by
                      rw [← hc]; exact hlow
                    have HC := Lib.hid hc; clear hc hlow
                    go_wp2_with (go_at_call 134; refine hlow'.mono ?_; rintro e w' ⟨rfl, hb'⟩)
                    go_roundg (n - (k + 1))
                    case measure => omega
                    case rel => exact ⟨k + 1, by omega, by omega, by go_num, HB4.out.trans (hb'.mono HB4.out.size), _, hnext.out HC.out, HM4.out.below hb'⟩
            · have hltz : ¬ (k : Int) < (n : Int) := by omega
              obtain rfl : n = k := by omega
              obtain ⟨w3, rfl⟩ : ∃ w3 : World, w3 = wr := ⟨_, rfl⟩
              have HB6 := HB
              clear HB
              go_wp2
              go_loopg [108] n (fun gg s108 wr => wr = w3 ∧ ∃ i : Nat, i ≤ n ∧ n - i ≤ gg ∧ s108 = .int .i64 i ∧ Aside (∀ a, a < i → 0 ≤ M a a))
              case atStart => exact ⟨rfl, 0, Nat.zero_le _, by omega, rfl, fun a ha => absurd ha (by omega)⟩
              case round =>
                obtain ⟨rfl, i, hi, hg6, rfl, HD⟩ := hrel
                by_cases hlt6 : i < n
                · have hltz6 : (i : Int) < (n : Int) := by omega
                  have o1 := HM.out.outer i hlt6
                  have r1 := HM.out.row i i hlt6 hlt6
                  have hneg := Lib.hid (fun h => tight_diag (w := w) HF.out hlt6 h HB6.out)
                  have hpos := Lib.hid (show 0 ≤ M i i → ∀ a, a < i + 1 → 0 ≤ M a a from fun h a ha => by
                    by_cases e : a = i
                    · subst e; exact h
                    · exact HD.out a (by omega))
                  clear HD
                  by_cases hd : M i i < 0
                  · go_wp2
                    go_ret2
                    exact hneg.out (by omega)
                  · go_wp2
                    go_roundg (n - (i + 1))
                    case measure => omega
                    case rel => exact ⟨rfl, i + 1, by omega, by omega, by go_num, hpos.out (by omega)⟩
                · have hltz6 : ¬ (i : Int) < (n : Int) := by omega
                  obtain rfl : n = i := by omega
                  have hfin := Lib.hid (tight_some (w := w) HF.out HD.out HB6.out HM.out)
                  clear HD
                  go_wp2
                  go_ret2
                  exact hfin.out
end Go.Proofs.YthilkphnjffnhaaGreat

/- bounds.Tight, Consistent, Between of valid networks. -/
namespace Go.Proofs.YthilkphnjffnhaaGreat
open Go.RowKit Go.Shelf

section
variable {n : Nat} {A : Option Addr} {c : Nat} {l : List Bd} {w : World}
theorem bvalid_parts (hv : bvalid n l = true) : 1 ≤ n ∧ n ≤ 24 ∧ l.length ≤ 200 ∧ ∀ b ∈ l, rightB n b = true := by
  obtain ⟨h1, h2, h3, h4⟩ := bvalid_iff.1 hv
  exact ⟨by omega, by omega, h3, h4⟩
theorem tight_no (hs : RdS Bd.enc 3 w A l) (hv : bvalid n l = true) (h : tightF n l = none) :
    Calls Tryz.prog 70 #[.int .i64 n, .slice A l.length c] w fun e w' => e = .returned (.tuple #[.slice none 0 0, .bool false]) ∧ Below w.heap.size w w' := by
  obtain ⟨h1, h2, h3, h4⟩ := bvalid_parts hv
  refine (tight_any n A c l w hs h1 h2 (by omega) h4).mono ?_
  intro e w' hp
  rw [h] at hp
  exact ⟨hp.2, hp.1⟩
theorem tight_yes (hs : RdS Bd.enc 3 w A l) (hv : bvalid n l = true) {M : Mx} (h : tightF n l = some M) :
    Calls Tryz.prog 70 #[.int .i64 n, .slice A l.length c] w fun e w' => ∃ bm rb cp, e = .returned (.tuple #[.slice (some ⟨bm, 0, none⟩) n n, .bool true]) ∧ Mat w' w.heap.size bm rb cp n n M ∧ Below w.heap.size w w' := by
  obtain ⟨h1, h2, h3, h4⟩ := bvalid_parts hv
  refine (tight_any n A c l w hs h1 h2 (by omega) h4).mono ?_
  intro e w' hp
  rw [h] at hp
  obtain ⟨hb, bm, rb, cp, he, hm⟩ := hp
  exact ⟨bm, rb, cp, he, hm, hb⟩

theorem valid_yes (hs : RdS Bd.enc 3 w A l) (hv : bvalid n l = true) :
    Calls Tryz.prog 15 #[.int .i64 n, .slice A l.length c] w fun e w' => e = .returned (.bool true) ∧ Below w.heap.size w w' := by
  have := bvalid_any n A c l w hs
  rwa [hv] at this

theorem Tight_no (hs : RdS Bd.enc 3 w A l) (hv : bvalid n l = true) (h : tightF n l = none) :
    Calls Tryz.prog 18 #[.int .i64 n, .slice A l.length c] w fun e w' => e = .returned (.tuple #[.slice none 0 0, .int .i64 17]) ∧ Below w.heap.size w w' := by
  have hvy := valid_yes (c := c) hs hv
  have HS := Lib.hid hs; clear hs
  have HV := Lib.hid hv; clear hv
  have HH := Lib.hid h; clear h
  go_enter Tryz.func18, Tryz.ntmps18
  go_wp2_with fail
  refine hvy.mono ?_
  rintro e w1 ⟨rfl, hb1⟩
  go_wp2_with fail
  refine (tight_no (HS.out.below hb1) HV.out HH.out).mono ?_
  rintro e w2 ⟨rfl, hb2⟩
  go_wp2
  go_ret2
  exact ⟨rfl, hb1.trans (hb2.mono hb1.size)⟩
theorem Tight_yes (hs : RdS Bd.enc 3 w A l) (hv : bvalid n l = true) {M : Mx} (h : tightF n l = some M) :
    Calls Tryz.prog 18 #[.int .i64 n, .slice A l.length c] w fun e w' => ∃ bm rb cp, e = .returned (.tuple #[.slice (some ⟨bm, 0, none⟩) n n, .int .i64 0]) ∧ Mat w' w.heap.size bm rb cp n n M ∧ Below w.heap.size w w' := by
  have hvy := valid_yes (c := c) hs hv
  have HS := Lib.hid hs; clear hs
  have HV := Lib.hid hv; clear hv
  have HH := Lib.hid h; clear h
  go_enter Tryz.func18, Tryz.ntmps18
  go_wp2_with fail
  refine hvy.mono ?_
  rintro e w1 ⟨rfl, hb1⟩
  go_wp2_with fail
  refine (tight_yes (HS.out.below hb1) HV.out HH.out).mono ?_
  rintro e w2 ⟨bm, rb, cp, rfl, hm, hb2⟩
  have HM := Lib.hid hm; clear hm
  go_wp2
  go_ret2
  have hm := HM.out
  exact ⟨bm, rb, cp, rfl, { hm with olo := Nat.le_trans hb1.size hm.olo, rlo := fun i hi => Nat.le_trans hb1.size (hm.rlo i hi) }, hb1.trans (hb2.mono hb1.size)⟩
theorem Consistent_any (hs : RdS Bd.enc 3 w A l) (hv : bvalid n l = true) :
    Calls Tryz.prog 19 #[.int .i64 n, .slice A l.length c] w fun e w' => e = .returned (.tuple #[.bool (tightF n l).isSome, .int .i64 0]) ∧ Below w.heap.size w w' := by
  have hvy := valid_yes (c := c) hs hv
  have HS := Lib.hid hs; clear hs
  have HV := Lib.hid hv; clear hv
  cases h : tightF n l with
  | none =>
    have HH := Lib.hid h; clear h
    go_enter Tryz.func19, Tryz.ntmps19
    go_wp2_with fail
    refine hvy.mono ?_
    rintro e w1 ⟨rfl, hb1⟩
    go_wp2_with fail
    refine (tight_no (HS.out.below hb1) HV.out HH.out).mono ?_
    rintro e w2 ⟨rfl, hb2⟩
    go_wp2
    go_ret2
    exact ⟨rfl, hb1.trans (hb2.mono hb1.size)⟩
  | some M =>
    have HH := Lib.hid h; clear h
    go_enter Tryz.func19, Tryz.ntmps19
    go_wp2_with fail
    refine hvy.mono ?_
    rintro e w1 ⟨rfl, hb1⟩
    go_wp2_with fail
    refine (tight_yes (HS.out.below hb1) HV.out HH.out).mono ?_
    rintro e w2 ⟨bm, rb, cp, rfl, hm, hb2⟩
    go_wp2
    go_ret2
    exact ⟨rfl, hb1.trans (hb2.mono hb1.size)⟩

/-- what Between answers -/
def betweenF (n : Nat) (l : List Bd) (i j : Int) : Int × Int × Int :=
  if 0 ≤ i ∧ i < n ∧ 0 ≤ j ∧ j < n then match tightF n l with | none => (0, 0, 17) | some M => (-(M j.toNat i.toNat), M i.toNat j.toNat, 0)
  else (0, 0, 2)
theorem tightF_in (hv : bvalid n l = true) {M : Mx} (h : tightF n l = some M) : InB n M := by
  obtain ⟨h1, h2, h3, h4⟩ := bvalid_parts hv
  unfold tightF at h
  cases e : fw n n (addAll l) with
  | none => rw [e] at h; cases h
  | some M' =>
    rw [e] at h
    simp only [Option.bind_some] at h
    split at h
    · cases h
    · cases h
      exact fw_in (addAll_in h4) n (Nat.le_refl _) _ e

set_option maxRecDepth 100000 in
set_option maxHeartbeats 1000000 in
theorem Between_any (hs : RdS Bd.enc 3 w A l) (hv : bvalid n l = true) (i j : Int) :
    Calls Tryz.prog 22 #[.int .i64 n, .slice A l.length c, .int .i64 i, .int .i64 j] w fun e w' => e = .returned (.tuple #[.int .i64 (betweenF n l i j).1, .int .i64 (betweenF n l i j).2.1, .int .i64 (betweenF n l i j).2.2]) ∧ Below w.heap.size w w' := by
  have hvy := valid_yes (c := c) hs hv
  by_cases hr : 0 ≤ i ∧ i < n ∧ 0 ≤ j ∧ j < n
  · obtain ⟨h1, h2, h3, h4⟩ := hr
    cases h : tightF n l with
    | none =>
      have hB : betweenF n l i j = (0, 0, 17) := by unfold betweenF; rw [if_pos ⟨h1, h2, h3, h4⟩, h]
      rw [hB]
      have HS := Lib.hid hs; clear hs
      have HV := Lib.hid hv; clear hv hB
      have HH := Lib.hid h; clear h
      go_enter Tryz.func22, Tryz.ntmps22
      go_wp2_with fail
      refine hvy.mono ?_
      rintro e w1 ⟨rfl, hb1⟩
      go_wp2_with fail
      refine (tight_no (HS.out.below hb1) HV.out HH.out).mono ?_
      rintro e w2 ⟨rfl, hb2⟩
      go_wp2
      go_ret3
      exact ⟨rfl, hb1.trans (hb2.mono hb1.size)⟩
    | some M =>
      have hB : betweenF n l i j = (-(M j.toNat i.toNat), M i.toNat j.toNat, 0) := by unfold betweenF; rw [if_pos ⟨h1, h2, h3, h4⟩, h]
      rw [hB]
      obtain ⟨a, rfl⟩ := Int.eq_ofNat_of_zero_le h1
      obtain ⟨b, rfl⟩ := Int.eq_ofNat_of_zero_le h3
      have ha : a < n := by omega
      have hb : b < n := by omega
      have hin := tightF_in hv h b a hb ha
      simp only [Int.toNat_natCast]
      have HS := Lib.hid hs; clear hs
      have HV := Lib.hid hv; clear hv hB
      have HH := Lib.hid h; clear h
      go_enter Tryz.func22, Tryz.ntmps22
      go_wp2_with fail
      refine hvy.mono ?_
      rintro e w1 ⟨rfl, hb1⟩
      go_wp2_with fail
      refine (tight_yes (HS.out.below hb1) HV.out HH.out).mono ?_
      rintro e w2 ⟨bm, rb, cp, rfl, hm, hb2⟩
      have o1 := hm.outer a ha
      have o2 := hm.outer b hb
      have r1 := hm.row a b ha hb
      have r2 := hm.row b a hb ha
      clear hm
      go_wp2
      go_quiet (fail)
      go_wp2
      go_ret3
      refine ⟨rfl, ?_⟩
      have := hb1.trans (hb2.mono hb1.size)
      exact ⟨this.os, this.tape, this.output, this.size, this.block⟩
  · have hB : betweenF n l i j = (0, 0, 2) := by unfold betweenF; rw [if_neg hr]
    rw [hB]
    clear hB
    have HS := Lib.hid hs; clear hs
    have HV := Lib.hid hv; clear hv
    by_cases g1 : i < 0
    · go_enter Tryz.func22, Tryz.ntmps22
      go_wp2_with (go_at_call 15; refine hvy.mono ?_; rintro e w1 ⟨rfl, hb1⟩)
      go_ret3
      exact ⟨rfl, hb1⟩
    · by_cases g2 : i < n
      · by_cases g3 : j < 0
        · go_enter Tryz.func22, Tryz.ntmps22
          go_wp2_with (go_at_call 15; refine hvy.mono ?_; rintro e w1 ⟨rfl, hb1⟩)
          go_ret3
          exact ⟨rfl, hb1⟩
        · have g4 : ¬ j < n := by omega
          clear hr
          go_enter Tryz.func22, Tryz.ntmps22
          go_wp2_with (go_at_call 15; refine hvy.mono ?_; rintro e w1 ⟨rfl, hb1⟩)
          go_ret3
          exact ⟨rfl, hb1⟩
      · clear hr
        go_enter Tryz.func22, Tryz.ntmps22
        go_wp2_with (go_at_call 15; refine hvy.mono ?_; rintro e w1 ⟨rfl, hb1⟩)
        go_ret3
        exact ⟨rfl, hb1⟩
end
end Go.Proofs.YthilkphnjffnhaaGreat
