/- sweep.sorted: the indices of the chosen spans, in the order of the key, where at least one is chosen. -/
import Derived.Test.YthilkphnjffnhaaGreatSrtc
import Derived.Test.YthilkphnjffnhaaGreatSrd
import Derived.Test.YthilkphnjffnhaaGreatAddb
import Derived.Test.YthilkphnjffnhaaGreatOf
import Derived.BigQuiet
set_option linter.unusedSimpArgs false
set_option linter.unusedVariables false
namespace Go.Proofs.YthilkphnjffnhaaGreat
open Go.RowKit Go.Shelf

theorem byKey_neg {key : Sp → Int} {l : List Sp} {i k : Nat} : byKey key l i k < 0 ↔ key (l.getD i default) < key (l.getD k default) ∨ key (l.getD i default) = key (l.getD k default) ∧ i < k := by
  unfold byKey
  generalize key (l.getD i default) = x
  generalize key (l.getD k default) = y
  rcases Int.lt_trichotomy x y with h | h | h
  · rw [cmp3_lt h]; simp [orF]; omega
  · rw [cmp3_eq h]
    rcases Nat.lt_trichotomy i k with h' | h' | h'
    · rw [cmp3_lt (show (i : Int) < k by omega)]; simp [orF]; omega
    · rw [cmp3_eq (show (i : Int) = k by omega)]; simp [orF]; omega
    · rw [cmp3_gt (show (k : Int) < i by omega)]; simp [orF]; omega
  · rw [cmp3_gt h]; simp [orF]; omega
theorem swo_key {α : Type} (key : Sp → Int) (l : List Sp) (ix : α → Nat) : Sort.SWO (ltOf fun x y : α => byKey key l (ix x) (ix y)) where
  irrefl x := by simp only [ltOf, decide_eq_false_iff_not, byKey_neg]; omega
  trans x y z h1 h2 := by simp only [ltOf, decide_eq_true_eq, byKey_neg] at *; omega
  ntrans x y z h1 h2 := by simp only [ltOf, decide_eq_false_iff_not, byKey_neg] at *; omega

/-- the chosen of the first k -/
def chP (p : Sp → Bool) (l : List Sp) (k : Nat) : List Int := ((List.range k).filter fun i => p (l.getD i default)).map fun (i : Nat) => (i : Int)
theorem chP_succ {p : Sp → Bool} {l : List Sp} {k : Nat} : chP p l (k + 1) = if p (l.getD k default) = true then chP p l k ++ [(k : Int)] else chP p l k := by
  unfold chP
  rw [List.range_succ, List.filter_append, List.map_append]
  by_cases h : p (l.getD k default) = true
  · rw [if_pos h, List.filter_cons, if_pos h]; rfl
  · rw [if_neg h, List.filter_cons, if_neg h]; simp
theorem chP_len {p : Sp → Bool} {l : List Sp} {k : Nat} : (chP p l k).length ≤ k := by
  unfold chP
  have := List.length_filter_le (fun i => p (l.getD i default)) (List.range k)
  simpa using this
theorem chP_mem {p : Sp → Bool} {l : List Sp} {k : Nat} {x : Int} (h : x ∈ chP p l k) : ∃ i : Nat, x = i ∧ i < k := by
  unfold chP at h
  obtain ⟨i, hi, rfl⟩ := List.mem_map.1 h
  exact ⟨i, rfl, List.mem_range.1 (List.mem_filter.1 hi).1⟩

/-- what sorted answers -/
def SortP (p : Sp → Bool) (key : Sp → Int) (l : List Sp) (w w' : World) (v : Value) : Prop :=
  ∃ g cap xs, v = .slice (some ⟨g, 0, none⟩) xs.length cap ∧ RdS encI 1 w' (some ⟨g, 0, none⟩) xs ∧ xs.Perm (chP p l l.length) ∧ xs.Pairwise (fun i k => 0 ≤ byKey key l k.toNat i.toNat) ∧ Below w.heap.size w w'

/-- the row of the chosen, sorted -/
theorem sortKey_any (g : Nat) (lb : Array Value) (eg : ∀ args w, (callFunc g args).run Tryz.prog w = .ok (.enter g args) w) (key : Sp → Int) (hkey : ∀ s W, Calls Tryz.prog g (#[s.val] ++ lb) W fun e w' => e = .returned (.int .i64 (key s)) ∧ Gr W w')
    (p : Sp → Bool) (bk bl lo b cap : Nat) (A : Option Addr) (c : Nat) (l : List Sp) (w : World) (hbk : bk < lo) (hbl : bl < lo) (hn : l.length ≤ 1000) (h0 : 0 < l.length)
    (ck : w.cell? ⟨bk, 0, none⟩ = some (.func (.func g) #[] lb)) (cl : w.cell? ⟨bl, 0, none⟩ = some (.slice A l.length c)) (hs : ∀ W, Below lo w W → RdS Sp.enc 2 W A l)
    (h : OwS encI 1 w lo b (chP p l l.length).length (fun i => (chP p l l.length).getD i default)) :
    Calls Tryz.prog 149 #[.slice (some ⟨b, 0, none⟩) (chP p l l.length).length cap, .func (.func 150) #[] #[.pointer (some ⟨bk, 0, none⟩), .pointer (some ⟨bl, 0, none⟩)]] w fun e w' => e = .returned (.tuple #[]) ∧
      ∃ xs : List Int, xs.length = (chP p l l.length).length ∧ RdS encI 1 w' (some ⟨b, 0, none⟩) xs ∧ xs.Perm (chP p l l.length) ∧ xs.Pairwise (fun i k => 0 ≤ byKey key l k.toNat i.toNat) ∧ Below lo w w' := by
  have hcl := chP_len (p := p) (l := l) (k := l.length)
  have hmem : ∀ i, i < (chP p l l.length).length → ∃ j : Nat, (chP p l l.length).getD i default = j ∧ j < l.length := fun i hi => by
    refine chP_mem (p := p) (l := l) ?_
    rw [List.getD_eq_getElem?_getD, List.getElem?_eq_getElem hi, Option.getD_some]
    exact List.getElem_mem hi
  haveI : Inhabited { i : Nat // i < l.length } := ⟨⟨0, h0⟩⟩
  generalize hL : chP p l l.length = L at *
  let F : Nat → { i : Nat // i < l.length } := fun i => if h : i < L.length then ⟨(L.getD i default).toNat, by obtain ⟨j, e, hj⟩ := hmem i h; rw [e]; simpa using hj⟩ else default
  have hF : ∀ i, i < L.length → (((F i).1 : Nat) : Int) = L.getD i default := fun i hi => by
    obtain ⟨j, e, hj⟩ := hmem i hi
    show (((dite _ _ _ : { i : Nat // i < l.length }).1 : Nat) : Int) = _
    rw [dif_pos hi]
    show ((L.getD i default).toNat : Int) = _
    rw [e]; simp
  have h' : OwS encI 1 w lo b L.length (fun i => ((F i).1 : Int)) := h.congr fun i hi => (hF i hi).symm
  refine (sort149 (fun x : { i : Nat // i < l.length } => (x.1 : Int)) (fun x y => byKey key l x.1 y.1) (swo_key key l _) 150 _ (enters_of Tryz.func150 (by kernel_rfl) rfl) lo b L.length cap F w h' (by omega) (fun x y W hW => ?_)).mono ?_
  · have hk1 := hW.cell (p := ⟨bk, 0, none⟩) hbk
    have hl1 := hW.cell (p := ⟨bl, 0, none⟩) hbl
    have hsz := hW.size
    have hlt := h.lt
    have hlo := h.lo
    exact sorted1_any g lb eg key hkey bk bl A c l x.1 y.1 x.2 y.2 W (by omega) (by omega) (hk1.trans ck) (hl1.trans cl) (hs W hW)
  rintro e w' ⟨rfl, F', ho, hp, hsrt, hb⟩
  refine ⟨rfl, (List.range L.length).map fun i => ((F' i).1 : Int), by simp, ho.rd (by omega), ?_, ?_, hb⟩
  · have h1 := hp.map (fun x : { i : Nat // i < l.length } => (x.1 : Int))
    rw [List.map_map, List.map_map] at h1
    have e : (List.range L.length).map ((fun x : { i : Nat // i < l.length } => (x.1 : Int)) ∘ F) = L := by
      apply List.ext_getElem
      · simp
      · intro i h1 h2
        simp only [List.getElem_map, List.getElem_range, Function.comp]
        rw [hF i h2, List.getD_eq_getElem?_getD, List.getElem?_eq_getElem h2]; rfl
    rw [e] at h1
    exact h1
  · rw [List.pairwise_map]
    refine List.Pairwise.imp_of_mem ?_ (List.pairwise_lt_range (n := L.length))
    intro i j hi hj hij
    have := hsrt i j hij (List.mem_range.1 hj)
    simpa using this

theorem two_boxes {w w1 : World} {a b : Value} {e1 e2 : TypeId} (h : (w.alloc (.cells #[a] e1)).alloc (.cells #[b] e2) = w1) :
    Below w.heap.size w w1 ∧ w1.heap.size = w.heap.size + 2 ∧ w1.cell? ⟨w.heap.size, 0, none⟩ = some a ∧ w1.cell? ⟨w.heap.size + 1, 0, none⟩ = some b := by
  subst h
  refine ⟨((Below.refl _ _).alloc (Nat.le_refl _) _).alloc (by simp) _, by simp, ?_, ?_⟩
  · go_simp
  · go_simp

set_option maxRecDepth 100000 in
set_option maxHeartbeats 4000000 in
theorem sorted_any (f : Nat) (fb : Array Value) (ef : ∀ args w, (callFunc f args).run Tryz.prog w = .ok (.enter f args) w) (p : Sp → Bool)
    (g : Nat) (lb : Array Value) (eg : ∀ args w, (callFunc g args).run Tryz.prog w = .ok (.enter g args) w) (key : Sp → Int) (hkey : ∀ s W, Calls Tryz.prog g (#[s.val] ++ lb) W fun e w' => e = .returned (.int .i64 (key s)) ∧ Gr W w')
    (A : Option Addr) (c : Nat) (l : List Sp) (w : World) (hs : RdS Sp.enc 2 w A l) (hp : PredOn Tryz.prog f fb Sp.val p l w) (hn : l.length ≤ 1000) (hne : chP p l l.length ≠ []) :
    Calls Tryz.prog 88 #[.slice A l.length c, .func (.func f) #[] fb, .func (.func g) #[] lb] w fun e w' => ∃ v, e = .returned v ∧ SortP p key l w w' v := by
  have HS := Lib.hid hs
  have HP := Lib.hid hp
  have HK := Lib.hid hkey
  have HNE := Lib.hid hne
  clear hs hp hkey hne
  go_enter Tryz.func88, Tryz.ntmps88
  go_wp2
  obtain ⟨w1, hw1⟩ : ∃ w1 : World, (w.alloc (.cells #[.slice A l.length c] 56)).alloc (.cells #[.func (.func g) #[] lb] 138) = w1 := ⟨_, rfl⟩
  obtain ⟨hB1, hz1, cl, ck⟩ := two_boxes hw1
  rw [hw1]
  clear hw1
  have hS1 := HS.out.below hB1
  have HB1 := Lib.hid hB1; have HZ1 := Lib.hid hz1; have HS1 := Lib.hid hS1; have CK := Lib.hid ck
  have hlz : w.heap.size < w1.heap.size := by omega
  clear hB1 hz1 hS1 ck
  go_wp2
  have CL := Lib.hid cl
  clear cl
  go_loopg [7, 12] l.length (fun gg s7 s12 wr => ∃ (k : Nat) (v : Value), k ≤ l.length ∧ l.length - k ≤ gg ∧ s12 = .int .i64 (k : Int) ∧ v = s7 ∧ Aside (OwL encI 1 3 wr w1.heap.size v (chP p l k)) ∧ Aside (Below w1.heap.size w1 wr))
  case atStart => exact ⟨0, _, by omega, by omega, rfl, rfl, OwL.nil, Below.refl _ _⟩
  case round =>
    obtain ⟨k, v1, hk, hg, rfl, rfl, HO, HB⟩ := hrel
    have hcl := chP_len (p := p) (l := l) (k := k)
    by_cases hlt : k < l.length
    · have hltz : (k : Int) < (l.length : Int) := by omega
      obtain ⟨b, off, rfl, hb, c0, c1⟩ := (HS1.out.below HB.out).at2 hlt
      have hmem : l.getD k default ∈ l := by rw [getD_at hlt]; exact List.getElem_mem hlt
      have HMEM := Lib.hid hmem
      have HCS := Lib.hid (chP_succ (p := p) (l := l) (k := k))
      have HBW := Lib.hid (HB1.out.trans (HB.out.mono (by omega)))
      clear hmem
      generalize l.getD k default = x at *
      have hcall := HP.out x HMEM.out (wr.alloc (.cells #[.int .i64 x.a, .int .i64 x.b] 58)) (HBW.out.alloc HBW.out.size _)
      cases hq : p x with
      | true =>
        rw [hq] at hcall HCS
        go_wp2_with fail
        refine hcall.mono ?_
        rintro e w3 ⟨rfl, hb3⟩
        have HO3 := Lib.hid ((OwL.alloc HO.out (.cells #[.int .i64 x.a, .int .i64 x.b] 58)).below hb3)
        have HB3 := Lib.hid ((HB.out.alloc HB.out.size (.cells #[.int .i64 x.a, .int .i64 x.b] 58)).trans (hb3.mono (by have := HB.out.size; simp; omega)))
        clear hb3 hcall
        clear c0 c1
        go_wp2_with (at_builtin; refine wpList_app (v := v1) (xs := chP p l k) (ys := [(k : Int)]) (A := some ⟨w3.heap.size, 0, none⟩) rfl _ _ 26 rfl elT57 enc57 rfl (HO3.out.alloc _) rfl (rd_one (enc := encI) (k := 1) w3 (k : Int) 3) (fun h => by cases h) (by simp; omega) (by decide) (by have := HB3.out.size; simp; omega) ?_; intro v' w4 hown' hgrow hnil hat; have HOW := Lib.hid hown'; have HBX := Lib.hid (ofB2 HB3.out HO3.out HB3.out.size hgrow); clear hown' hgrow hnil hat)
        go_roundg (l.length - (k + 1))
        case measure => omega
        case rel => exact ⟨k + 1, _, by omega, by omega, by go_num, rfl, by rw [HCS.out, if_pos trivial]; exact HOW.out, HBX.out⟩
      | false =>
        rw [hq] at hcall HCS
        go_wp2_with fail
        refine hcall.mono ?_
        rintro e w3 ⟨rfl, hb3⟩
        have HO3 := Lib.hid ((OwL.alloc HO.out (.cells #[.int .i64 x.a, .int .i64 x.b] 58)).below hb3)
        have HB3 := Lib.hid ((HB.out.alloc HB.out.size (.cells #[.int .i64 x.a, .int .i64 x.b] 58)).trans (hb3.mono (by have := HB.out.size; simp; omega)))
        clear hb3 hcall
        clear c0 c1
        go_wp2
        go_roundg (l.length - (k + 1))
        case measure => omega
        case rel => exact ⟨k + 1, _, by omega, by omega, by go_num, rfl, by rw [HCS.out, if_neg (by simp)]; exact HO3.out, HB3.out⟩
    · obtain rfl : k = l.length := by omega
      have hltz : ¬ ((l.length : Nat) : Int) < (l.length : Int) := by omega
      have hpos : 0 < l.length := by
        rcases Nat.eq_zero_or_pos l.length with e | e
        · exact absurd (by rw [e]; rfl) HNE.out
        · exact e
      obtain ⟨gb, cap, rfl, hg2, hg3⟩ : ∃ gb cap, v1 = .slice (some ⟨gb, 0, none⟩) (chP p l l.length).length cap ∧ w1.heap.size ≤ gb ∧ gb < wr.heap.size := by
        rcases HO.out.form with ⟨_, e⟩ | h
        · exact absurd e HNE.out
        · exact h
      have hcall := sortKey_any g lb eg key HK.out p (w.heap.size + 1) w.heap.size w1.heap.size gb cap A c l wr (by have := HZ1.out; omega) hlz hn hpos
        ((HB.out.cell (p := ⟨w.heap.size + 1, 0, none⟩) (by have := HZ1.out; simp; omega)).trans CK.out) ((HB.out.cell (p := ⟨w.heap.size, 0, none⟩) hlz).trans CL.out) (fun W hW => HS1.out.below (HB.out.trans hW)) (OwL.ows enc57.len HO.out)
      have HC := Lib.hid hcall
      clear hcall hcl hg hk
      go_wp2_with fail
      refine HC.out.mono ?_
      rintro e w3 ⟨rfl, xs, hxl, hxr, hxp, hxs, hxb⟩
      go_wp2
      go_ret
      exact ⟨_, rfl, gb, cap, xs, by rw [hxl]; rfl, hxr, hxp, hxs, HB1.out.trans ((HB.out.trans hxb).mono (by have := HZ1.out; omega))⟩
end Go.Proofs.YthilkphnjffnhaaGreat

/- sweep.right. -/
namespace Go.Proofs.YthilkphnjffnhaaGreat
open Go.RowKit Go.Shelf

theorem right1_any (s : Sp) (w : World) : Calls Tryz.prog 147 (#[s.val] ++ #[]) w fun e w' => e = .returned (.bool (!validS s)) ∧ Below w.heap.size w w' := by
  obtain ⟨a, b⟩ := s
  show Calls Tryz.prog 147 #[.agg #[.int .i64 a, .int .i64 b]] w _
  go_enter Tryz.func147, Tryz.ntmps147
  go_wp2_with (go_at_call 91; refine (ivalid_any a b _).mono ?_; rintro e w' ⟨rfl, hb'⟩)
  go_ret
  exact ⟨rfl, ((Below.refl _ _).alloc (Nat.le_refl _) _).trans (hb'.mono (by simp))⟩

def rightS (l : List Sp) : Bool := decide (l.length ≤ 1000) && !l.any (fun s => !validS s)
theorem rightS_any (A : Option Addr) (c : Nat) (l : List Sp) (w : World) (hs : RdS Sp.enc 2 w A l) :
    Calls Tryz.prog 82 #[.slice A l.length c] w fun e w' => e = .returned (.bool (rightS l)) ∧ Below w.heap.size w w' := by
  by_cases h : l.length ≤ 1000
  · have hz : (l.length : Int) ≤ 1000 := by omega
    have hc := containsFunc53 147 #[] (enters_of Tryz.func147 (by kernel_rfl) rfl) (fun s => !validS s) A c l w hs (fun s _ W _ => right1_any s W)
    have HV := Lib.hid (show rightS l = !l.any (fun s => !validS s) by simp [rightS, h])
    rw [HV.out]
    clear HV hs h
    generalize l.any (fun s => !validS s) = x at *
    go_enter Tryz.func82, Tryz.ntmps82
    go_wp2_with fail
    refine hc.mono ?_
    rintro e w1 ⟨rfl, hb1⟩
    go_wp2
    go_ret
    exact ⟨rfl, hb1⟩
  · have hz : ¬ (l.length : Int) ≤ 1000 := by omega
    have HV := Lib.hid (show rightS l = false by simp [rightS, h])
    rw [HV.out]
    clear HV hs h
    go_enter Tryz.func82, Tryz.ntmps82
    go_wp2
    go_ret
    exact ⟨rfl, Below.refl _ _⟩
end Go.Proofs.YthilkphnjffnhaaGreat

/- sweep.Pack: valid spans in a valid span, where at least one of them lies inside. -/
namespace Go.Proofs.YthilkphnjffnhaaGreat
open Go.RowKit Go.Shelf

def insP (s x : Sp) : Bool := decide (s.a ≤ x.a) && decide (x.b ≤ s.b)
theorem inside_any (s x : Sp) (B : Nat) (w : World) (hB : B < w.heap.size) (c0 : w.cell? ⟨B, 0, none⟩ = some (.int .i64 s.a)) (c1 : w.cell? ⟨B, 1, none⟩ = some (.int .i64 s.b)) :
    Calls Tryz.prog 92 (#[x.val] ++ #[.pointer (some ⟨B, 0, none⟩)]) w fun e w' => e = .returned (.bool (insP s x)) ∧ Below w.heap.size w w' := by
  obtain ⟨a, b⟩ := s
  obtain ⟨x, y⟩ := x
  simp only at c0 c1
  show Calls Tryz.prog 92 #[.agg #[.int .i64 x, .int .i64 y], .pointer (some ⟨B, 0, none⟩)] w _
  by_cases h1 : a ≤ x <;> by_cases h2 : y ≤ b
  all_goals
    go_enter Tryz.func92, Tryz.ntmps92
    go_wp2
    go_ret
    exact ⟨ret_bool (by simp [insP]; omega), (Below.refl _ _).alloc (Nat.le_refl _) _⟩

def pkOk (l : List Sp) (acc : List Int) (i : Int) : Bool := acc.isEmpty || decide ((l.getD (acc.getLastD 0).toNat default).b ≤ (l.getD i.toNat default).a)
def pkStep (l : List Sp) (acc : List Int) (i : Int) : List Int := if pkOk l acc i = true then acc ++ [i] else acc
def pkGo (l : List Sp) (xs : List Int) : List Int := xs.foldl (pkStep l) []
theorem pkGo_take {l : List Sp} {xs : List Int} {k : Nat} (hk : k < xs.length) : pkGo l (xs.take (k + 1)) = pkStep l (pkGo l (xs.take k)) (xs.getD k default) := by
  unfold pkGo
  rw [List.take_succ_eq_append_getElem hk, List.foldl_append, getD_at hk]; rfl
theorem pkGo_len {l : List Sp} : ∀ xs : List Int, ∀ acc, (xs.foldl (pkStep l) acc).length ≤ acc.length + xs.length
  | [], acc => by simp
  | x :: xs, acc => by
    rw [List.foldl_cons]
    refine Nat.le_trans (pkGo_len xs _) ?_
    unfold pkStep
    split <;> simp <;> omega
theorem pkGo_mem {l : List Sp} : ∀ xs : List Int, ∀ acc, ∀ x ∈ xs.foldl (pkStep l) acc, x ∈ acc ∨ x ∈ xs
  | [], acc, x, h => .inl h
  | y :: xs, acc, x, h => by
    rw [List.foldl_cons] at h
    rcases pkGo_mem xs _ x h with h | h
    · unfold pkStep at h
      split at h
      · rcases List.mem_append.1 h with h | h
        · exact .inl h
        · exact .inr (by simp at h; simp [h])
      · exact .inl h
    · exact .inr (by simp [h])

def PackP (l : List Sp) (s : Sp) (w : World) (e : Ending) (w' : World) : Prop :=
  ∃ v xs, e = .returned (.tuple #[v, .int .i64 0]) ∧ OwL encI 1 3 w' w.heap.size v (pkGo l xs) ∧ xs.Perm (chP (insP s) l l.length) ∧ xs.Pairwise (fun i k => 0 ≤ byKey Sp.b l k.toNat i.toNat) ∧ Below w.heap.size w w'

theorem one_box2 {w w1 : World} {a b : Value} {e1 : TypeId} (h : w.alloc (.cells #[a, b] e1) = w1) :
    Below w.heap.size w w1 ∧ w1.heap.size = w.heap.size + 1 ∧ w1.cell? ⟨w.heap.size, 0, none⟩ = some a ∧ w1.cell? ⟨w.heap.size, 1, none⟩ = some b := by
  subst h
  refine ⟨(Below.refl _ _).alloc (Nat.le_refl _) _, by simp, ?_, ?_⟩
  · go_simp
  · go_simp

set_option maxRecDepth 100000 in
set_option maxHeartbeats 4000000 in
theorem pack_any (A : Option Addr) (c : Nat) (l : List Sp) (s : Sp) (w : World) (hs : RdS Sp.enc 2 w A l) (hr : rightS l = true) (hv : validB s.a s.b = true) (hne : chP (insP s) l l.length ≠ []) :
    Calls Tryz.prog 38 #[.slice A l.length c, s.val] w fun e w' => PackP l s w e w' := by
  have hn : l.length ≤ 1000 := by simp [rightS] at hr; omega
  have HS := Lib.hid hs; have HR := Lib.hid hr; have HV := Lib.hid hv; have HNE := Lib.hid hne
  clear hs hr hv hne
  show Calls Tryz.prog 38 #[.slice A l.length c, .agg #[.int .i64 s.a, .int .i64 s.b]] w _
  go_enter Tryz.func38, Tryz.ntmps38
  go_wp2_with fail
  obtain ⟨w1, hw1⟩ : ∃ w1 : World, w.alloc (.cells #[.int .i64 s.a, .int .i64 s.b] 58) = w1 := ⟨_, rfl⟩
  obtain ⟨hB1, hz1, k0, k1⟩ := one_box2 hw1
  rw [hw1]
  clear hw1
  have hc1 := rightS_any A c l w1 (HS.out.below hB1)
  rw [HR.out] at hc1
  refine hc1.mono ?_
  rintro e w2 ⟨rfl, hb2⟩
  have hlz : w.heap.size < w1.heap.size := by omega
  have q0 := (hb2.cell (p := ⟨w.heap.size, 0, none⟩) hlz).trans k0
  have q1 := (hb2.cell (p := ⟨w.heap.size, 1, none⟩) hlz).trans k1
  have hlz2 : w.heap.size < w2.heap.size := by have := hb2.size; omega
  have HB2 := Lib.hid (hB1.trans (hb2.mono (by omega)))
  clear hc1 hB1 hb2 k0 k1
  go_wp2_with fail
  have hc2 := ivalid_any s.a s.b w2
  rw [HV.out] at hc2
  refine hc2.mono ?_
  rintro e w3 ⟨rfl, hb3⟩
  have q0 := (hb3.cell (p := ⟨w.heap.size, 0, none⟩) hlz2).trans q0
  have q1 := (hb3.cell (p := ⟨w.heap.size, 1, none⟩) hlz2).trans q1
  have hlz3 : w.heap.size < w3.heap.size := by have := hb3.size; omega
  have HB3 := Lib.hid (HB2.out.trans (hb3.mono (by omega)))
  have HQ0 := Lib.hid q0; have HQ1 := Lib.hid q1
  clear hc2 hb3 q0 q1 HB2 hz1 hlz hlz2
  go_wp2_with fail
  refine (sorted_any 92 #[.pointer (some ⟨w.heap.size, 0, none⟩)] (enters_of Tryz.func92 (by kernel_rfl) rfl) (insP s) 93 #[] (enters_of Tryz.func93 (by kernel_rfl) rfl) Sp.b (fun s W => pack2_any s W) A c l w3 (HS.out.below HB3.out) (fun x _ W hW => inside_any s x w.heap.size W (by have := hW.size; omega) ((hW.cell (p := ⟨w.heap.size, 0, none⟩) hlz3).trans HQ0.out) ((hW.cell (p := ⟨w.heap.size, 1, none⟩) hlz3).trans HQ1.out)) hn HNE.out).mono ?_
  rintro e w4 ⟨v, rfl, g, cap, xs, rfl, hxr, hxp, hxs, hxb⟩
  have HB4 := Lib.hid (HB3.out.trans (hxb.mono (by omega)))
  have HXR := Lib.hid hxr; have HXP := Lib.hid hxp; have HXS := Lib.hid hxs
  have hxlen : xs.length ≤ 1000 := by have := hxp.length_eq; have := chP_len (p := insP s) (l := l) (k := l.length); omega
  have HXM := Lib.hid (fun x (hx : x ∈ xs) => chP_mem (p := insP s) (l := l) (hxp.mem_iff.1 hx))
  clear hxr hxp hxs hxb
  go_wp2
  go_loopg [7, 23] xs.length (fun gg s7 s23 wr => ∃ (k : Nat) (v : Value), k ≤ xs.length ∧ xs.length - k ≤ gg ∧ s23 = .int .i64 (k : Int) ∧ v = s7 ∧ Aside (OwL encI 1 3 wr w4.heap.size v (pkGo l (xs.take k))) ∧ Aside (Below w4.heap.size w4 wr))
  case atStart => exact ⟨0, _, by omega, by omega, rfl, rfl, OwL.nil, Below.refl _ _⟩
  case round =>
    obtain ⟨k, v1, hk, hg, rfl, rfl, HO, HB⟩ := hrel
    by_cases hlt : k < xs.length
    · have hltz : (k : Int) < (xs.length : Int) := by omega
      have hst := pkGo_take (l := l) hlt
      obtain ⟨j, hj, hjl⟩ := HXM.out (xs.getD k default) (by rw [getD_at hlt]; exact List.getElem_mem hlt)
      obtain ⟨_, _, eb, hgb, d0⟩ := (HXR.out.below HB.out).s1 hlt
      cases eb
      rw [← getD_at hlt] at d0
      rw [hj] at hst d0
      rw [Nat.zero_add] at d0
      have hjz : (j : Int) < (l.length : Int) := by omega
      obtain ⟨b, off, rfl, hb, c0, _⟩ := (HS.out.below (HB4.out.trans (HB.out.mono HB4.out.size))).at2 hjl
      have haln := pkGo_len (l := l) (xs.take k) []
      have hacm : ∀ x ∈ pkGo l (xs.take k), x ∈ xs := fun x hx => by
        rcases pkGo_mem (l := l) (xs.take k) [] x hx with h | h
        · cases h
        · exact List.mem_of_mem_take h
      have haln : (pkGo l (xs.take k)).length ≤ k := by
        have h2 : (xs.take k).length ≤ k := by simp; omega
        have h3 : (pkGo l (xs.take k)).length ≤ ([] : List Int).length + (xs.take k).length := haln
        simp only [List.length_nil] at h3; omega
      have HACM := Lib.hid hacm
      have HBW := Lib.hid (HB4.out.trans (HB.out.mono HB4.out.size))
      clear hacm
      generalize pkGo l (xs.take k) = acc at *
      have HST := Lib.hid hst
      have HJ := Lib.hid hj
      clear hst hj
      rcases List.eq_nil_or_concat acc with he | ⟨pre, t, he⟩
      · subst he
        have HAC := Lib.hid (show pkStep l [] (j : Int) = [] ++ [(j : Int)] from rfl)
        obtain ⟨A', c', rfl, _⟩ := OwL.rd HO.out enc57.len (by simp)
        have HB' := Lib.hid HB.out; clear HB
        have HO' := Lib.hid HO.out; clear HO
        simp only [List.length_nil]
        go_wp2
        go_quiet (fail)
        generalize hwq : wr.drewN _ = wq
        have HOQ : Hid (OwL encI 1 3 wq w4.heap.size (.slice A' 0 c') ([])) := Lib.hid (by rw [← hwq]; exact OwL.drewN HO'.out)
        have HBQ : Hid (Below w4.heap.size w4 wq) := Lib.hid (by rw [← hwq]; exact below_drewN HB'.out _)
        clear hwq
        go_wp2_with (at_builtin; refine wpList_app (v := .slice A' 0 c') (xs := []) (ys := [(j : Int)]) (A := some ⟨wq.heap.size, 0, none⟩) rfl _ _ 26 rfl elT57 enc57 rfl (HOQ.out.alloc _) rfl (rd_one (enc := encI) (k := 1) wq (j : Int) 3) (fun h => by cases h) (by simp <;> omega) (by decide) (by have := HBQ.out.size; simp <;> omega) ?_; intro v' w5 hown' hgrow hnil hat; have HOW := Lib.hid hown'; have HBX := Lib.hid (ofB2 HBQ.out HOQ.out HBQ.out.size hgrow); clear hown' hgrow hnil hat)
        go_roundg (xs.length - (k + 1))
        case measure => omega
        case rel => exact ⟨k + 1, _, by omega, by omega, by go_num, rfl, by rw [HST.out, HAC.out]; exact HOW.out, HBX.out⟩
      · rw [List.concat_eq_append] at he
        subst he
        rcases OwL.form HO.out with ⟨_, h0⟩ | ⟨g2, cap2, rfl, hg2, hg3⟩
        · simp at h0
        obtain ⟨jt, rfl, hjt⟩ : ∃ jt : Nat, t = jt ∧ jt < l.length := HXM.out t (HACM.out t (by simp))
        obtain ⟨_, _, eb, _, _, c1⟩ := (HS.out.below HBW.out).at2 hjt
        cases eb
        have e0 : wr.cell? ⟨g2, pre.length, none⟩ = some (.int .i64 (jt : Int)) := by
          have := (OwL.ows enc57.len HO.out).cell pre.length (by simp) 0 (.int .i64 (jt : Int)) (by simp [encI])
          simpa using this
        have hjtz : (jt : Int) < (l.length : Int) := by omega
        have hprl : pre.length ≤ 1000 := by simp at haln; omega
        have hwr : IntKind.i64.wrap (pre.length : Int) = (pre.length : Int) := IntWalk.i64_in _ (by omega)
        have hix : (pre.length : Int) < (pre.length : Int) + 1 := by omega
        have HB' := Lib.hid HB.out; clear HB
        have HO' := Lib.hid HO.out; clear HO
        rw [List.length_append, List.length_singleton] at HO' ⊢
        by_cases hcmp : (l.getD jt default).b ≤ (l.getD j default).a
        · have HAC := Lib.hid (show pkStep l (pre ++ [(jt : Int)]) (j : Int) = (pre ++ [(jt : Int)]) ++ [(j : Int)] by
            unfold pkStep; rw [if_pos]; simp only [pkOk, List.getLastD_concat, Int.toNat_natCast, Bool.or_eq_true, decide_eq_true_eq]; exact .inr hcmp)
          generalize (l.getD jt default).b = y at *
          generalize (l.getD j default).a = z at *
          go_wp2
          go_quiet (fail)
          generalize hwq : wr.drewN _ = wq
          have HOQ : Hid (OwL encI 1 3 wq w4.heap.size (.slice (some ⟨g2, 0, none⟩) (pre.length + 1) cap2) (pre ++ [(jt : Int)])) := Lib.hid (by rw [← hwq]; exact OwL.drewN HO'.out)
          have HBQ : Hid (Below w4.heap.size w4 wq) := Lib.hid (by rw [← hwq]; exact below_drewN HB'.out _)
          clear hwq
          go_wp2_with (at_builtin; refine wpList_app (v := .slice (some ⟨g2, 0, none⟩) (pre.length + 1) cap2) (xs := pre ++ [(jt : Int)]) (ys := [(j : Int)]) (A := some ⟨wq.heap.size, 0, none⟩) rfl _ _ 26 rfl elT57 enc57 rfl (HOQ.out.alloc _) rfl (rd_one (enc := encI) (k := 1) wq (j : Int) 3) (fun h => by cases h) (by simp <;> omega) (by decide) (by have := HBQ.out.size; simp <;> omega) ?_; intro v' w5 hown' hgrow hnil hat; have HOW := Lib.hid hown'; have HBX := Lib.hid (ofB2 HBQ.out HOQ.out HBQ.out.size hgrow); clear hown' hgrow hnil hat)
          go_roundg (xs.length - (k + 1))
          case measure => omega
          case rel => exact ⟨k + 1, _, by omega, by omega, by go_num, rfl, by rw [HST.out, HAC.out]; exact HOW.out, HBX.out⟩
        · have HAC := Lib.hid (show pkStep l (pre ++ [(jt : Int)]) (j : Int) = (pre ++ [(jt : Int)]) by
            unfold pkStep; rw [if_neg]; simp only [pkOk, List.getLastD_concat, Int.toNat_natCast, Bool.or_eq_true, decide_eq_true_eq]; rintro (h | h)
            · simp at h
            · exact hcmp h)
          have hcmp' : decide ((l.getD jt default).b ≤ (l.getD j default).a) = false := decide_eq_false hcmp
          generalize (l.getD jt default).b = y at *
          generalize (l.getD j default).a = z at *
          go_wp2
          go_quiet (fail)
          generalize hwq : wr.drewN _ = wq
          have HOQ : Hid (OwL encI 1 3 wq w4.heap.size (.slice (some ⟨g2, 0, none⟩) (pre.length + 1) cap2) (pre ++ [(jt : Int)])) := Lib.hid (by rw [← hwq]; exact OwL.drewN HO'.out)
          have HBQ : Hid (Below w4.heap.size w4 wq) := Lib.hid (by rw [← hwq]; exact below_drewN HB'.out _)
          clear hwq
          go_wp2
          go_roundg (xs.length - (k + 1))
          case measure => omega
          case rel => exact ⟨k + 1, _, by omega, by omega, by go_num, rfl, by rw [HST.out, HAC.out]; exact HOQ.out, HBQ.out⟩
    · obtain rfl : k = xs.length := by omega
      have hltz : ¬ ((xs.length : Nat) : Int) < (xs.length : Int) := by omega
      go_wp2
      go_ret2
      refine ⟨_, xs, rfl, ?_, HXP.out, HXS.out, HB4.out.trans (HB.out.mono HB4.out.size)⟩
      have := HO.out
      rw [List.take_length] at this
      exact this.mono HB4.out.size
end Go.Proofs.YthilkphnjffnhaaGreat
