/- runs.Of: the spans sorted and merged. -/
import Derived.Test.YthilkphnjffnhaaGreatSrtb
import Derived.Test.YthilkphnjffnhaaGreatCln
import Derived.Test.YthilkphnjffnhaaGreatIdx
set_option linter.unusedSimpArgs false
set_option linter.unusedVariables false
namespace Go.Proofs.YthilkphnjffnhaaGreat
open Go.RowKit Go.Shelf

instance : Inhabited Sp := ⟨⟨0, 1⟩⟩
def validS (s : Sp) : Bool := validB s.a s.b
/-- one span more -/
def mergeStep (out : List Sp) (s : Sp) : List Sp :=
  match out.getLast? with
  | none => [s]
  | some t => if s.a ≤ t.b then out.dropLast ++ [⟨t.a, max t.b s.b⟩] else out ++ [s]
def mergeL (l : List Sp) : List Sp := l.foldl mergeStep []
theorem mergeL_take {l : List Sp} {k : Nat} (hk : k < l.length) : mergeL (l.take (k + 1)) = mergeStep (mergeL (l.take k)) l[k] := by
  unfold mergeL
  rw [List.take_succ_eq_append_getElem hk, List.foldl_append]; rfl
theorem mergeStep_len (out : List Sp) (s : Sp) : (mergeStep out s).length ≤ out.length + 1 := by
  unfold mergeStep
  split
  · simp
  · split
    · simp
    · simp
theorem mergeL_len (l : List Sp) : (mergeL l).length ≤ l.length := by
  have : ∀ (l out : List Sp), (l.foldl mergeStep out).length ≤ out.length + l.length := by
    intro l
    induction l with
    | nil => intro out; simp
    | cons s l ih => intro out; have := ih (mergeStep out s); have := mergeStep_len out s; simp only [List.foldl_cons, List.length_cons]; omega
  simpa [mergeL] using this l []

theorem of1_any (s : Sp) (w : World) : Calls Tryz.prog 153 (#[s.val] ++ #[]) w fun e w' => e = .returned (.bool (!validS s)) ∧ Below w.heap.size w w' := by
  obtain ⟨a, b⟩ := s
  show Calls Tryz.prog 153 #[.agg #[.int .i64 a, .int .i64 b]] w _
  go_enter Tryz.func153, Tryz.ntmps153
  go_wp2_with (go_at_call 91; refine (ivalid_any a b _).mono ?_; rintro e w' ⟨rfl, hb'⟩)
  go_ret
  exact ⟨rfl, ((Below.refl _ _).alloc (Nat.le_refl _) _).trans (hb'.mono (by simp))⟩

theorem done_any (v : Value) (A : Option Addr) (n c : Nat) (hv : v = .slice A n c) (hn : n ≤ 2000) (w : World) : Calls Tryz.prog 156 #[v] w fun e w' => e = .returned (.tuple #[v, .int .i64 0]) ∧ w = w' := by
  subst hv
  have h1 : ¬ (2000 : Int) < (n : Int) := by omega
  go_enter Tryz.func156, Tryz.ntmps156
  go_wp2
  go_ret2
  exact ⟨rfl, rfl⟩

abbrev VSp := { s : Sp // validS s = true }
instance : Inhabited VSp := ⟨⟨⟨0, 1⟩, by decide⟩⟩
theorem swo_from : Sort.SWO (ltOf fun x y : VSp => x.1.a - y.1.a) where
  irrefl x := by simp [ltOf]
  trans x y z h1 h2 := by simp [ltOf] at *; omega
  ntrans x y z h1 h2 := by simp [ltOf] at *; omega

/-- sorted and the same -/
def SortedOf (ss l : List Sp) : Prop := ss.Perm l ∧ ss.Pairwise (fun x y => x.a ≤ y.a)

/-- the row sorted -/
theorem sortOf_any (lo b cap : Nat) (l : List Sp) (w : World) (hl : ∀ s ∈ l, validS s = true) (h : OwS Sp.enc 2 w lo b l.length (fun i => l.getD i default)) (hn : l.length ≤ 1000000) :
    Calls Tryz.prog 154 #[.slice (some ⟨b, 0, none⟩) l.length cap, .func (.func 155) #[] #[]] w fun e w' => e = .returned (.tuple #[]) ∧
      ∃ ss, SortedOf ss l ∧ ss.length = l.length ∧ OwS Sp.enc 2 w' lo b l.length (fun i => ss.getD i default) ∧ Below lo w w' := by
  let F : Nat → VSp := fun i => if h : i < l.length then ⟨l[i], hl _ (List.getElem_mem h)⟩ else default
  have hF : ∀ i, i < l.length → (F i).1 = l.getD i default := fun i hi => by
    rw [List.getD_eq_getElem?_getD, List.getElem?_eq_getElem hi, Option.getD_some]
    show (dite _ _ _ : VSp).1 = _
    rw [dif_pos hi]
  have h' : OwS Sp.enc 2 w lo b l.length (fun i => (F i).1) := h.congr fun i hi => (hF i hi).symm
  refine (sort154 (fun x : VSp => x.1) (fun x y => x.1.a - y.1.a) swo_from 155 #[] (enters_of Tryz.func155 (by kernel_rfl) rfl) lo b l.length cap F w h' hn (fun x y W _ => of2_any x.1 y.1 x.2 y.2 W)).mono ?_
  rintro e w' ⟨rfl, F', ho, hp, hs, hb⟩
  have hlen : ((List.range l.length).map fun i => (F' i).1).length = l.length := by simp
  have hget : ∀ i, i < l.length → ((List.range l.length).map fun i => (F' i).1).getD i default = (F' i).1 := fun i hi => by
    rw [List.getD_eq_getElem?_getD, List.getElem?_map, List.getElem?_range hi]; rfl
  refine ⟨rfl, (List.range l.length).map fun i => (F' i).1, ⟨?_, ?_⟩, hlen, ho.congr fun i hi => (hget i hi).symm, hb⟩
  · have h1 := hp.map (fun x : VSp => x.1)
    rw [List.map_map, List.map_map] at h1
    have e : (List.range l.length).map ((fun x : VSp => x.1) ∘ F) = l := by
      apply List.ext_getElem
      · simp
      · intro i h1 h2
        simp only [List.getElem_map, List.getElem_range, Function.comp]
        rw [hF i h2, List.getD_eq_getElem?_getD, List.getElem?_eq_getElem h2]; rfl
    rw [e] at h1
    exact h1
  · rw [List.pairwise_map]
    refine List.Pairwise.imp_of_mem ?_ (List.pairwise_lt_range (n := l.length))
    intro i j hi hj hij
    have := hs i j hij (List.mem_range.1 hj)
    omega

/-- a span's end turned, in a row of the call's own -/
theorem own_setTo {w : World} {base g cap : Nat} {pre : List Sp} {t : Sp} (y : Int) (h : OwL Sp.enc 2 58 w base (.slice (some ⟨g, 0, none⟩) (pre.length + 1) cap) (pre ++ [t])) :
    OwL Sp.enc 2 58 (w.setCell ⟨g, pre.length * 2 + 1, none⟩ (.int .i64 y)) base (.slice (some ⟨g, 0, none⟩) (pre.length + 1) cap) (pre ++ [⟨t.a, y⟩]) := by
  unfold OwL at *
  have hl : (pre ++ [t]).length = pre.length + 1 := by simp
  have hl2 : (pre ++ [(⟨t.a, y⟩ : Sp)]).length = pre.length + 1 := by simp
  rw [hl] at h
  rw [hl2]
  have hs := (World.ownsRow.stored h (pre.length * 2 + 1) (.int .i64 y)).1
  have e : ((pre ++ [t]).flatMap Sp.enc).set (pre.length * 2 + 1) (.int .i64 y) = (pre ++ [(⟨t.a, y⟩ : Sp)]).flatMap Sp.enc := by
    rw [List.flatMap_append, List.flatMap_append]
    have hp : (pre.flatMap Sp.enc).length = pre.length * 2 := flatMap_len (enc := Sp.enc) (k := 2) (fun _ => rfl) pre
    rw [List.set_append_right _ _ (by rw [hp]; omega), hp]
    simp [Sp.enc]
  rwa [e] at hs
/-- the last one's end, as a cell -/
theorem own_lastTo {w : World} {base g cap : Nat} {pre : List Sp} {t : Sp} (h : OwL Sp.enc 2 58 w base (.slice (some ⟨g, 0, none⟩) (pre.length + 1) cap) (pre ++ [t])) :
    w.cell? ⟨g, pre.length * 2 + 1, none⟩ = some (.int .i64 t.b) ∧ w.frozen? ⟨g, pre.length * 2 + 1, none⟩ = false := by
  unfold OwL at h
  have hl : (pre ++ [t]).length = pre.length + 1 := by simp
  rw [hl] at h
  refine ⟨?_, h.frozenAt _⟩
  rw [h.cellAt _ (by omega)]
  exact flatMap_get (enc := Sp.enc) (k := 2) (fun _ => rfl) (pre ++ [t]) pre.length t 1 _ (by simp) rfl
theorem OwL.drewN {α : Type} {enc : α → List Value} {k : Nat} {e : TypeId} {w : World} {base : Nat} {v : Value} {xs : List α} {n : Nat} (h : OwL enc k e w base v xs) : OwL enc k e (w.drewN n) base v xs := h
theorem ofB {w3 wr w4 : World} {o1 o2 : Obj} {nq : Nat} {v : Value} {xs : List Sp} (hb : Below w3.heap.size w3 wr) (h : OwL Sp.enc 2 58 wr w3.heap.size v xs) (hg : (((wr.alloc o1).drewN nq).alloc o2).grownBy w4 v.ownBlock) : Below w3.heap.size w3 w4 := by
  have h1 : Below w3.heap.size w3 (((wr.alloc o1).drewN nq).alloc o2) := (below_drewN (hb.alloc hb.size _) nq).alloc (by have := hb.size; simp [World.drewN]; omega) _
  exact h1.grown hg (by have := h1.size; omega) (fun k hk => (h.lt k hk).1)
theorem box_eq {wr w4 : World} {a b : Value} {nq : Nat} (h : (wr.alloc (.cells #[a, b] 58)).drewN nq = w4) :
    w4.cell? ⟨wr.heap.size, 0, none⟩ = some a ∧ w4.cell? ⟨wr.heap.size, 1, none⟩ = some b ∧ w4.heap.size = wr.heap.size + 1 ∧ wr.heap.size < w4.heap.size ∧ Below wr.heap.size wr w4 := by
  subst h
  refine ⟨?_, ?_, by simp [World.drewN], by simp [World.drewN], below_drewN ((Below.refl _ _).alloc (Nat.le_refl _) _) nq⟩
  · show (wr.alloc _).cell? _ = _
    rw [World.cell?_alloc_new]; rfl
  · show (wr.alloc _).cell? _ = _
    rw [World.cell?_alloc_new]; rfl
theorem mergeStep_last {pre : List Sp} {t s : Sp} (h : s.a ≤ t.b) : mergeStep (pre ++ [t]) s = pre ++ [⟨t.a, max t.b s.b⟩] := by simp [mergeStep, h]
theorem mergeStep_new {pre : List Sp} {t s : Sp} (h : ¬ s.a ≤ t.b) : mergeStep (pre ++ [t]) s = pre ++ [t] ++ [s] := by simp [mergeStep, h]

set_option maxRecDepth 100000 in
set_option maxHeartbeats 4000000 in
theorem of_any (b off c : Nat) (l : List Sp) (w : World) (hs : RdS Sp.enc 2 w (some ⟨b, off, none⟩) l) (hl : ∀ s ∈ l, validS s = true) (hn : l.length ≤ 2000) :
    Calls Tryz.prog 94 #[.slice (some ⟨b, off, none⟩) l.length c] w fun e w' => ∃ v ss, e = .returned (.tuple #[v, .int .i64 0]) ∧ Aside (SortedOf ss l ∧ OwL Sp.enc 2 58 w' w.heap.size v (mergeL ss)) ∧ Below w.heap.size w w' := by
  have hc1 := containsFunc53 153 #[] (enters_of Tryz.func153 (by kernel_rfl) rfl) (fun s => !validS s) (some ⟨b, off, none⟩) c l w hs (fun s _ W _ => of1_any s W)
  have hany : l.any (fun s => !validS s) = false := by rw [List.any_eq_false]; intro s hs'; simp [hl s hs']
  rw [hany] at hc1
  have HS := Lib.hid hs; clear hs
  have HL := Lib.hid hl; clear hl hany
  go_enter Tryz.func94, Tryz.ntmps94
  go_wp2_with fail
  refine hc1.mono ?_
  rintro e w1 ⟨rfl, hb1⟩
  have HB1 := Lib.hid hb1
  go_wp2_with fail
  refine (clone55 b off c l w1 (HS.out.below hb1) (by omega)).mono ?_
  rintro e w2 ⟨g, cap, rfl, hown, hb2⟩
  have HO := Lib.hid (hown.ows enc55.len); clear hown
  have HB2 := Lib.hid hb2; clear hb1 hb2 hc1
  go_wp2_with fail
  refine (sortOf_any w1.heap.size g cap l w2 HL.out HO.out (by omega)).mono ?_
  rintro e w3 ⟨rfl, ss, hsd, hlen, ho3, hb3⟩
  have HSD := Lib.hid hsd; clear hsd
  have HO3 := Lib.hid ho3; clear ho3
  have HB3 := Lib.hid (show Below w.heap.size w w3 from (HB1.out.trans (HB2.out.mono HB1.out.size)).trans (hb3.mono HB1.out.size)); clear hb3
  clear HO HB1 HB2
  have START := Lib.hid (show OwL Sp.enc 2 58 w3 w3.heap.size (.slice none 0 0) (mergeL (ss.take 0)) from OwL.nil)
  go_wp2
  go_loopg [5, 17] l.length (fun gg s5 s17 wr => ∃ k : Nat, k ≤ l.length ∧ l.length - k ≤ gg ∧ s17 = .int .i64 k ∧ Aside (OwL Sp.enc 2 58 wr w3.heap.size s5 (mergeL (ss.take k))) ∧ Aside (Below w3.heap.size w3 wr))
  case atStart => exact ⟨0, Nat.zero_le _, by omega, rfl, START.out, Below.refl _ _⟩
  case round =>
    obtain ⟨k, hk, hg, rfl, HR, HB⟩ := hrel
    clear START
    by_cases hlt : k < l.length
    · have hltz : (k : Int) < (l.length : Int) := by omega
      have hks : k < ss.length := by omega
      obtain ⟨s, hs⟩ : ∃ s, s = ss[k] := ⟨_, rfl⟩
      have hstep := mergeL_take hks
      rw [← hs] at hstep
      have ho := HO3.out.below HB.out
      have c0 : wr.cell? ⟨g, k * 2, none⟩ = some (.int .i64 s.a) := ho.cell k hlt 0 (.int .i64 s.a) (by simp [List.getD_eq_getElem?_getD, List.getElem?_eq_getElem hks, hs, Sp.enc])
      have c1 := ho.cell k hlt 1 (.int .i64 s.b) (by simp [List.getD_eq_getElem?_getD, List.getElem?_eq_getElem hks, hs, Sp.enc])
      have l1 := ho.lt
      have HSTEP := Lib.hid hstep
      have HRD := Lib.hid (fun nq => show RdS Sp.enc 2 (((wr.alloc (.cells #[.int .i64 s.a, .int .i64 s.b] 58)).drewN nq).alloc (.cells #[.int .i64 s.a, .int .i64 s.b] 58)) (some ⟨wr.heap.size + 1, 0, none⟩) [s] by
        rw [show wr.heap.size + 1 = ((wr.alloc (.cells #[.int .i64 s.a, .int .i64 s.b] 58)).drewN nq).heap.size from by simp [World.drewN]]
        exact rd_one (enc := Sp.enc) (k := 2) ((wr.alloc (.cells #[.int .i64 s.a, .int .i64 s.b] 58)).drewN nq) s 58)
      clear ho hstep hs
      rcases List.eq_nil_or_concat (mergeL (ss.take k)) with he | ⟨pre, t, he⟩
      · rw [he] at HR HSTEP
        obtain ⟨A, c', rfl, _⟩ := OwL.rd HR enc55.len (by simp)
        have HB' := Lib.hid HB; clear HB
        have HR' := Lib.hid HR; clear HR
        simp only [List.length_nil]
        go_wp2
        go_quiet (fail)
        go_wp2_with (at_builtin; refine wpList_app (v := .slice A 0 c') rfl _ _ 56 rfl elT55 enc55 rfl ((OwL.drewN (HR'.out.alloc _)).alloc _) rfl (HRD.out _) (fun h => by cases h) (by simp) (by decide) (by have := HB'.out.size; simp; omega) ?_; intro v' w4 hown' hgrow hnil hat; have HOW := Lib.hid hown'; have HBW := Lib.hid (ofB HB'.out HR'.out hgrow); clear hown' hgrow hnil hat HRD)
        go_roundg (l.length - (k + 1))
        case measure => omega
        case rel =>
          refine ⟨k + 1, by omega, by omega, by go_num, ?_, HBW.out⟩
          rw [HSTEP.out]; exact HOW.out
      · rw [List.concat_eq_append] at he
        rw [he] at HR HSTEP
        rcases OwL.form HR with ⟨_, h0⟩ | ⟨g2, cap2, rfl, hg2, hg3⟩
        · simp at h0
        rw [List.length_append, List.length_singleton] at HR ⊢
        have hlast := own_lastTo HR
        have d0 := hlast.1
        have d1 := hlast.2
        clear hlast
        have hpre : pre.length + 1 ≤ 2000 := by
          have := mergeL_len (ss.take k)
          rw [he] at this
          simp at this; omega
        have HB' := Lib.hid HB; clear HB
        have HR' := Lib.hid HR; clear HR
        by_cases hle : s.a ≤ t.b
        · rw [mergeStep_last hle] at HSTEP
          go_wp2
          go_quiet (fail)
          go_wp2
          generalize hw4 : World.drewN (World.alloc wr _) _ = w4
          have hbx := box_eq hw4
          clear hw4
          obtain ⟨x0, x1, x2, x3, x4⟩ := hbx
          have d2 : w4.cell? ⟨g2, pre.length * 2 + 1, none⟩ = some (.int .i64 t.b) := by rw [x4.cell hg3]; exact d0
          have d3 : w4.frozen? ⟨g2, pre.length * 2 + 1, none⟩ = false := by rw [x4.frozen hg3]; exact d1
          have hg4 : g2 < w4.heap.size := by omega
          have SET := Lib.hid (fun x => ((HR'.out.below x4).ext x |> fun h => own_setTo (max t.b s.b) h))
          have SB := Lib.hid (fun x r => show Below w3.heap.size w3 ((w4.ext x).setCell ⟨g2, pre.length * 2 + 1, none⟩ r) from ((HB'.out.trans (x4.mono HB'.out.size)).trans ((below_ext _ x).mono (by have := HB'.out.size; have := x4.size; omega))).setCell hg2 r)
          have hix : (pre.length : Int) < (pre.length : Int) + 1 := by omega
          have hwr : IntKind.i64.wrap (pre.length : Int) = (pre.length : Int) := by rw [IntKind.wrap_i64]; omega
          clear x4 HRD HR' HB' d0 d1
          refine wp_region_ext_tail 14 (by kernel_rfl) (by kernel_rfl) ?_
          simp only [List.take_succ_cons, List.take_zero, List.drop_succ_cons, List.drop_zero]
          repeat (refine wpQuiet_step (fun K hK => ?_); go_simp; first | (refine hK _ ?_; clear hK K))
          refine wpQuiet_nil ?_
          intro xa
          go_wp2
          all_goals
            go_roundg (l.length - (k + 1))
            case measure => omega
            case rel =>
              refine ⟨k + 1, by omega, by omega, by go_num, ?_, SB.out _ _⟩
              rw [HSTEP.out]
              have hm := SET.out xa
              exact hm
        · rw [mergeStep_new hle] at HSTEP
          go_wp2
          go_quiet (fail)
          go_wp2_with (at_builtin; refine wpList_app (v := .slice (some ⟨g2, 0, none⟩) (pre.length + 1) cap2) rfl _ _ 56 rfl elT55 enc55 rfl (xs := pre ++ [t]) ((OwL.drewN (HR'.out.alloc _)).alloc _) rfl (HRD.out _) (fun h => by cases h) (by simp; omega) (by decide) (by have := HB'.out.size; simp; omega) ?_; intro v' w4 hown' hgrow hnil hat; have HOW := Lib.hid hown'; have HBW := Lib.hid (ofB HB'.out HR'.out hgrow); clear hown' hgrow hnil hat HRD)
          go_roundg (l.length - (k + 1))
          case measure => omega
          case rel =>
            refine ⟨k + 1, by omega, by omega, by go_num, ?_, HBW.out⟩
            rw [HSTEP.out]; exact HOW.out
    · have hltz : ¬ (k : Int) < (l.length : Int) := by omega
      obtain rfl : l.length = k := by omega
      rw [List.take_of_length_le (by omega)] at HR
      obtain ⟨A, c', rfl, _⟩ := OwL.rd HR enc55.len (by have := mergeL_len ss; omega)
      have HR' := Lib.hid HR; clear HR
      have hml := mergeL_len ss
      go_wp2_with fail
      refine (done_any _ A (mergeL ss).length c' rfl (by omega) _).mono ?_
      rintro e w4 ⟨rfl, rfl⟩
      go_wp2
      go_ret2
      exact ⟨_, ss, rfl, ⟨HSD.out, HR'.out.mono HB3.out.size⟩, HB3.out.trans (HB.out.mono HB3.out.size)⟩
end Go.Proofs.YthilkphnjffnhaaGreat
