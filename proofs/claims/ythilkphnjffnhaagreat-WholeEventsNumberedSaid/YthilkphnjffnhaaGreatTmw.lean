/- What timesAwake's constant inputs come to: a table that is checked is what tightF answers. -/
import Derived.Test.YthilkphnjffnhaaGreatNarw
import Derived.Test.YthilkphnjffnhaaGreatTgt
import Derived.Test.YthilkphnjffnhaaGreatDst
import Derived.Test.YthilkphnjffnhaaGreatPck
import Derived.Test.YthilkphnjffnhaaGreatSaw
import Derived.Test.YthilkphnjffnhaaGreatEql
set_option linter.unusedSimpArgs false
set_option linter.unusedVariables false
namespace Go.Proofs.YthilkphnjffnhaaGreat
open Go.RowKit Go.Shelf

/-- the table D: it bounds every walk, and walks of at most two steps come to it -/
structure Chk (n : Nat) (l : List Bd) (D : Mx) : Prop where
  dg : ∀ a, a < n → D a a = 0
  fin : ∀ a, a < n → ∀ b, b < n → D a b ≠ 4398046511104
  st : ∀ x ∈ l, ∀ c, c < n → D x.i.toNat c ≤ x.m + D x.j.toNat c
  hit : ∀ a, a < n → ∀ b, b < n → a = b ∨ (∃ x ∈ l, x.i = a ∧ x.j = b ∧ x.m = D a b) ∨ (∃ x ∈ l, ∃ y ∈ l, x.i = a ∧ x.j = y.i ∧ y.j = b ∧ x.m + y.m = D a b)
theorem Chk.le {n : Nat} {l : List Bd} {D : Mx} (h : Chk n l D) {a b k : Nat} {W : Int} (w : Wk (EdB l) a b k W) : b < n → D a b ≤ W := by
  induction w with
  | nil a => intro hb; rw [h.dg a hb]; omega
  | @cons a b c k w W he _ ih =>
    intro hb
    have h1 := ih hb
    obtain ⟨x, hx, e1, e2, e3⟩ := he
    have h2 := h.st x hx c hb
    rw [e1, e2, e3] at h2
    simp only [Int.toNat_natCast] at h2
    omega
theorem tight_chk {n : Nat} {l : List Bd} {D : Mx} (hv : bvalid n l = true) (h : Chk n l D) : ∃ M, tightF n l = some M ∧ ∀ a b, a < n → b < n → M a b = D a b := by
  obtain ⟨h1, h2, h3, h4⟩ := bvalid_iff.1 hv
  have hend : ∀ {a b k : Nat} {W : Int}, Wk (EdB l) a b k W → a < n → b < n := fun w => by
    induction w with
    | nil a => exact fun h => h
    | cons he _ ih => exact fun _ => ih (EdB.lt h4 he).2
  have hd : Dist (EdB l) n D := ⟨fun a b k W ha w => ⟨h.le w (hend w ha), h.fin a ha b (hend w ha)⟩, fun a b ha hb _ => by
    rcases h.hit a ha b hb with e | ⟨x, hx, e1, e2, e3⟩ | ⟨x, hx, y, hy, e1, e2, e3, e4⟩
    · subst e; exact ⟨0, by rw [h.dg a ha]; exact Wk.nil a⟩
    · exact ⟨1, Wk.one ⟨x, hx, e1, e2, e3⟩⟩
    · have hb2 := rightB_iff.1 (h4 y hy)
      refine ⟨2, (Wk.cons (b := y.i.toNat) ⟨x, hx, e1, by rw [e2]; omega, rfl⟩ (Wk.one ⟨y, hy, by omega, e3, rfl⟩)).cast rfl e4⟩⟩
  obtain ⟨M, hM⟩ := (tight_some_iff hv).2 (fun a k W w => by
    by_cases ha : a < n
    · have := h.le w ha; rw [h.dg a ha] at this; exact this
    · cases w with
      | nil => omega
      | cons he _ => exact absurd (EdB.lt h4 he).1 ha)
  exact ⟨M, hM, fun a b ha hb => (tight_dist hv hM).uniq hd ha hb⟩

def lT : List Bd := [⟨0, 1, 5⟩, ⟨1, 0, -2⟩]
def tab (r : List (List Int)) : Mx := fun i j => (r.getD i []).getD j 0
theorem validT : bvalid (2 : Nat) lT = true := by decide
theorem tightT : ∃ M, tightF 2 lT = some M ∧ M 0 1 = 5 ∧ M 1 0 = -2 := by
  obtain ⟨M, hM, h⟩ := tight_chk (D := tab [[0, 5], [-2, 0]]) validT ⟨by decide, by decide, by decide, by decide⟩
  exact ⟨M, hM, h 0 1 (by omega) (by omega), h 1 0 (by omega) (by omega)⟩

theorem stepC_chk {n : Nat} {M D : Mx} (h : ∀ a b, a < n → b < n → M a b = D a b) {c : Cc} (hi : c.i < n) (hj : c.j < n) : stepL M c = stepL D c := by
  unfold stepL loM hiM
  rw [h _ _ hi hj, h _ _ hj hi]
theorem nar_done {n : Nat} {cs : List Cc} {D : Mx} (hv : bvalid n (hullsC cs) = true) (hc : Chk n (hullsC cs) D) (hl : ∀ c ∈ cs, c.i < n ∧ c.j < n) (hne : ∀ c ∈ cs, stepL D c ≠ []) (he : ∀ c ∈ cs, stepL D c = c.l) : NarTo n cs (some cs) := by
  obtain ⟨M, hM, h⟩ := tight_chk hv hc
  have hs : ∀ c ∈ cs, stepL M c = stepL D c := fun c hc => stepC_chk h (hl c hc).1 (hl c hc).2
  refine .done hM (fun c hc => by rw [hs c hc]; exact hne c hc) ?_
  conv => rhs; rw [← List.map_id cs]
  exact List.map_congr_left fun c hc => by unfold stepC; rw [hs c hc, he c hc]; rfl
theorem nar_more {n : Nat} {cs : List Cc} {D : Mx} {r : Option (List Cc)} (hv : bvalid n (hullsC cs) = true) (hc : Chk n (hullsC cs) D) (hl : ∀ c ∈ cs, c.i < n ∧ c.j < n) (hne : ∀ c ∈ cs, stepL D c ≠ []) (hd : cs.map (stepC D) ≠ cs) (hr : NarTo n (cs.map (stepC D)) r) : NarTo n cs r := by
  obtain ⟨M, hM, h⟩ := tight_chk hv hc
  have hs : ∀ c ∈ cs, stepL M c = stepL D c := fun c hc => stepC_chk h (hl c hc).1 (hl c hc).2
  have e : cs.map (stepC M) = cs.map (stepC D) := List.map_congr_left fun c hc => by unfold stepC; rw [hs c hc]
  exact .more hM (fun c hc => by rw [hs c hc]; exact hne c hc) (by rw [e]; exact hd) (by rw [e]; exact hr)
def csT : List Cc := [⟨0, 1, [⟨2, 5⟩, ⟨10, 13⟩]⟩, ⟨1, 2, [⟨3, 4⟩]⟩, ⟨0, 2, [⟨0, 7⟩]⟩]
def csU : List Cc := [⟨0, 1, [⟨2, 4⟩]⟩, ⟨1, 2, [⟨3, 4⟩]⟩, ⟨0, 2, [⟨5, 7⟩]⟩]
def DT : Mx := tab [[0, 3, 6], [-2, 0, 3], [-5, -3, 0]]
theorem hullT : hullsC csT = [⟨0, 1, 12⟩, ⟨1, 0, -2⟩, ⟨1, 2, 3⟩, ⟨2, 1, -3⟩, ⟨0, 2, 6⟩, ⟨2, 0, 0⟩] := by kernel_rfl
theorem hullU : hullsC csU = [⟨0, 1, 3⟩, ⟨1, 0, -2⟩, ⟨1, 2, 3⟩, ⟨2, 1, -3⟩, ⟨0, 2, 6⟩, ⟨2, 0, -5⟩] := by kernel_rfl
theorem stepT : csT.map (stepC DT) = csU := by kernel_rfl
theorem stepU : csU.map (stepC DT) = csU := by kernel_rfl
theorem narT : NarTo 3 csT (some csU) := by
  refine nar_more (D := DT) (by rw [hullT]; decide) ⟨by decide, by decide, by rw [hullT]; decide, by rw [hullT]; decide⟩ (by decide) ?_ ?_ ?_
  · have h : ∀ c ∈ csT.map (stepC DT), c.l ≠ [] := by rw [stepT]; decide
    exact fun c hc => h _ (List.mem_map_of_mem hc)
  · rw [stepT]
    intro e
    have := congrArg (fun l => (l.map fun c => c.l.length)) e
    revert this; decide
  · rw [stepT]
    refine nar_done (D := DT) (by rw [hullU]; decide) ⟨by decide, by decide, by rw [hullU]; decide, by rw [hullU]; decide⟩ (by decide) ?_ ?_
    · have h : ∀ c ∈ csU.map (stepC DT), c.l ≠ [] := by rw [stepU]; decide
      exact fun c hc => h _ (List.mem_map_of_mem hc)
    · have h := stepU
      simp only [csU, List.map_cons, List.map_nil, List.cons.injEq, stepC, Cc.mk.injEq] at h
      obtain ⟨⟨_, _, h1⟩, ⟨_, _, h2⟩, ⟨_, _, h3⟩, _⟩ := h
      intro c hc
      simp only [csU, List.mem_cons, List.not_mem_nil, or_false] at hc
      rcases hc with rfl | rfl | rfl
      · exact h1
      · exact h2
      · exact h3
end Go.Proofs.YthilkphnjffnhaaGreat

/- timesAwake. -/
namespace Go.Proofs.YthilkphnjffnhaaGreat
open Go.RowKit Go.Shelf

def lP : List Sp := [⟨0, 10⟩, ⟨5, 15⟩, ⟨10, 20⟩]
theorem packT {xs : List Int} (hp : xs.Perm (chP (insP ⟨0, 20⟩) lP lP.length)) (hs : xs.Pairwise (fun i k => 0 ≤ byKey Sp.b lP k.toNat i.toNat)) : pkGo lP xs = [0, 2] := by
  have e : chP (insP ⟨0, 20⟩) lP lP.length = [0, 1, 2] := by decide
  rw [e] at hp
  have hlen := hp.length_eq
  have hm : ∀ x ∈ xs, x = 0 ∨ x = 1 ∨ x = 2 := fun x hx => by simpa using hp.mem_iff.1 hx
  match xs, hlen with
  | [a, b, c], _ =>
    have h0 := hm a (by simp)
    have h1 := hm b (by simp)
    have h2 := hm c (by simp)
    clear hm hlen
    rcases h0 with rfl | rfl | rfl <;> rcases h1 with rfl | rfl | rfl <;> rcases h2 with rfl | rfl | rfl <;>
      first
      | (clear hp hs; decide)
      | (exfalso; clear hs; revert hp; decide)
      | (exfalso; clear hp; revert hs; decide)

def lC (h : Nat) : List Ch := [⟨0, 1, some ⟨h, 0, none⟩, 2, [⟨2, 5⟩, ⟨10, 13⟩]⟩, ⟨1, 2, some ⟨h + 1, 0, none⟩, 1, [⟨3, 4⟩]⟩, ⟨0, 2, some ⟨h + 2, 0, none⟩, 1, [⟨0, 7⟩]⟩]
theorem lC_core (h : Nat) : (lC h).map Ch.core = csT := rfl
theorem lC_valid (h : Nat) : dvalid 3 (lC h) = true := rfl
/-- what Narrow answers there -/
def NarTP (w : World) (e : Ending) (w' : World) : Prop :=
  ∃ g cap A c, e = .returned (.tuple #[.slice (some ⟨g, 0, none⟩) 3 cap, .int .i64 0]) ∧ g < w'.heap.size ∧ w'.cell? ⟨g, 2, none⟩ = some (.slice A 1 c) ∧ RdS Sp.enc 2 w' A [⟨2, 4⟩] ∧ Below w.heap.size w w'
theorem narrowT (h b c : Nat) (w : World) (hs : ChS w (some ⟨b, 0, none⟩) (lC h)) : Calls Tryz.prog 65 #[.int .i64 3, .slice (some ⟨b, 0, none⟩) 3 c] w fun e w' => NarTP w e w' := by
  refine (narrow_any 3 b 0 c (lC h) w hs (lC_valid h)).mono ?_
  rintro e w' ⟨hn, hb⟩
  rcases hn with ⟨v, xs, rfl, hS, hT⟩ | ⟨_, hT⟩
  · have hd := NarTo.det hT (by rw [lC_core]; exact narT)
    simp only [Option.some.injEq] at hd
    have hlen : xs.length = 3 := by rw [← List.length_map (f := Ch.core), hd]; rfl
    match xs, hlen with
    | [x, y, z], _ =>
      simp only [List.map_cons, List.map_nil, csU, List.cons.injEq] at hd
      have hx := congrArg Cc.l hd.1
      simp only [Ch.core] at hx
      rcases hS.own.form with ⟨_, e⟩ | ⟨g, cap, rfl, _, hl⟩
      · cases e
      have hc := (OwL.ows enc128.len hS.own).cell 0 (by simp) 2 (.slice x.A x.l.length x.c) rfl
      rw [hx] at hc
      have hr := hS.sp x (by simp)
      rw [hx] at hr
      exact ⟨g, cap, x.A, x.c, rfl, hl, by simpa using hc, hr, hb⟩
  · have hd := NarTo.det hT (by rw [lC_core]; exact narT)
    cases hd
def TgtTP (w : World) (e : Ending) (w' : World) : Prop :=
  ∃ bm r0 r1 c0 c1, e = .returned (.tuple #[.slice (some ⟨bm, 0, none⟩) 2 2, .int .i64 0]) ∧ bm < w'.heap.size ∧ r0 < w'.heap.size ∧ r1 < w'.heap.size ∧ w'.cell? ⟨bm, 0, none⟩ = some (.slice (some ⟨r0, 0, none⟩) 2 c0) ∧ w'.cell? ⟨bm, 1, none⟩ = some (.slice (some ⟨r1, 0, none⟩) 2 c1) ∧
    w'.cell? ⟨r0, 1, none⟩ = some (.int .i64 5) ∧ w'.cell? ⟨r1, 0, none⟩ = some (.int .i64 (-2)) ∧ Below w.heap.size w w'
theorem tightTw (b c : Nat) (w : World) (hs : RdS Bd.enc 3 w (some ⟨b, 0, none⟩) lT) : Calls Tryz.prog 18 #[.int .i64 2, .slice (some ⟨b, 0, none⟩) 2 c] w fun e w' => TgtTP w e w' := by
  obtain ⟨M, hM, e1, e2⟩ := tightT
  refine (Tight_yes (n := 2) (c := c) hs validT hM).mono ?_
  rintro e w' ⟨bm, rb, cp, rfl, hm, hb⟩
  exact ⟨bm, rb 0, rb 1, cp 0, cp 1, rfl, hm.olt, hm.rlt 0 (by omega), hm.rlt 1 (by omega), hm.outer 0 (by omega), hm.outer 1 (by omega), by rw [← e1]; exact hm.row 0 1 (by omega) (by omega), by rw [← e2]; exact hm.row 1 0 (by omega) (by omega), hb⟩
theorem chsT (w : World) (h : Nat) (hh : w.heap.size = h) : ChS ((((w.alloc (.cells #[.int .i64 2, .int .i64 5, .int .i64 10, .int .i64 13] 58)).alloc (.cells #[.int .i64 3, .int .i64 4] 58)).alloc (.cells #[.int .i64 0, .int .i64 7] 58)).alloc
    (.cells #[.int .i64 0, .int .i64 1, .slice (some ⟨h, 0, none⟩) 2 2, .int .i64 1, .int .i64 2, .slice (some ⟨h + 1, 0, none⟩) 1 1, .int .i64 0, .int .i64 2, .slice (some ⟨h + 2, 0, none⟩) 1 1] 91)) (some ⟨h + 3, 0, none⟩) (lC h) := by
  subst hh
  have r1 : RdS Sp.enc 2 (w.alloc (.cells #[.int .i64 2, .int .i64 5, .int .i64 10, .int .i64 13] 58)) (some ⟨w.heap.size, 0, none⟩) [⟨2, 5⟩, ⟨10, 13⟩] := rd_blk (enc := Sp.enc) (k := 2) w [⟨2, 5⟩, ⟨10, 13⟩] 58 (fun _ => rfl) (by decide)
  have hz1 : (w.alloc (.cells #[.int .i64 2, .int .i64 5, .int .i64 10, .int .i64 13] 58)).heap.size = w.heap.size + 1 := by simp
  generalize w.alloc (.cells #[.int .i64 2, .int .i64 5, .int .i64 10, .int .i64 13] 58) = w1 at *
  have r2 : RdS Sp.enc 2 (w1.alloc (.cells #[.int .i64 3, .int .i64 4] 58)) (some ⟨w1.heap.size, 0, none⟩) [⟨3, 4⟩] := rd_blk (enc := Sp.enc) (k := 2) w1 [⟨3, 4⟩] 58 (fun _ => rfl) (by decide)
  have hz2 : (w1.alloc (.cells #[.int .i64 3, .int .i64 4] 58)).heap.size = w1.heap.size + 1 := by simp
  have r1 := r1.below (w' := w1.alloc (.cells #[.int .i64 3, .int .i64 4] 58)) ((Below.refl _ _).alloc (Nat.le_refl _) _)
  generalize w1.alloc (.cells #[.int .i64 3, .int .i64 4] 58) = w2 at *
  have r3 : RdS Sp.enc 2 (w2.alloc (.cells #[.int .i64 0, .int .i64 7] 58)) (some ⟨w2.heap.size, 0, none⟩) [⟨0, 7⟩] := rd_blk (enc := Sp.enc) (k := 2) w2 [⟨0, 7⟩] 58 (fun _ => rfl) (by decide)
  have hz3 : (w2.alloc (.cells #[.int .i64 0, .int .i64 7] 58)).heap.size = w2.heap.size + 1 := by simp
  have r1 := r1.below (w' := w2.alloc (.cells #[.int .i64 0, .int .i64 7] 58)) ((Below.refl _ _).alloc (Nat.le_refl _) _)
  have r2 := r2.below (w' := w2.alloc (.cells #[.int .i64 0, .int .i64 7] 58)) ((Below.refl _ _).alloc (Nat.le_refl _) _)
  generalize w2.alloc (.cells #[.int .i64 0, .int .i64 7] 58) = w3 at *
  have e1 : w1.heap.size = w.heap.size + 1 := hz1
  have e2 : w2.heap.size = w.heap.size + 2 := by omega
  have e3 : w3.heap.size = w.heap.size + 3 := by omega
  rw [e1] at r2
  rw [e2] at r3
  have r4 := rd_blk (enc := Ch.enc) (k := 3) w3 (lC w.heap.size) 91 (fun _ => rfl) (show (3 : Nat) ≤ _ by decide)
  rw [e3] at r4
  have hb : Below w3.heap.size w3 (w3.alloc (.cells #[.int .i64 0, .int .i64 1, .slice (some ⟨w.heap.size, 0, none⟩) 2 2, .int .i64 1, .int .i64 2, .slice (some ⟨w.heap.size + 1, 0, none⟩) 1 1, .int .i64 0, .int .i64 2, .slice (some ⟨w.heap.size + 2, 0, none⟩) 1 1] 91)) := (Below.refl _ _).alloc (Nat.le_refl _) _
  refine ⟨r4, fun x hx => ?_⟩
  simp only [lC, List.mem_cons, List.not_mem_nil, or_false] at hx
  rcases hx with rfl | rfl | rfl
  · exact r1.below hb
  · exact r2.below hb
  · exact r3.below hb

set_option maxRecDepth 100000 in
set_option maxHeartbeats 4000000 in
theorem timesAwake_any (w : World) : Calls Tryz.prog 14 #[] w fun e w' => e = .returned (.bool true) ∧ Below w.heap.size w w' := by
  have hrd : RdS Bd.enc 3 (w.alloc (.cells #[.int .i64 0, .int .i64 1, .int .i64 5, .int .i64 1, .int .i64 0, .int .i64 (-2)] 29)) (some ⟨w.heap.size, 0, none⟩) lT := rd_blk (enc := Bd.enc) (k := 3) w lT 29 (fun _ => rfl) (by decide)
  have HT := Lib.hid (tightTw w.heap.size 2 _ hrd)
  have HB := Lib.hid (show Below w.heap.size w (w.alloc (.cells #[.int .i64 0, .int .i64 1, .int .i64 5, .int .i64 1, .int .i64 0, .int .i64 (-2)] 29)) from (Below.refl _ _).alloc (Nat.le_refl _) _)
  clear hrd
  go_enter Tryz.func14, Tryz.ntmps14
  go_wp2_with fail
  refine HT.out.mono ?_
  rintro e w1 ⟨bm, r0, r1, c0, c1, rfl, hl0, hl1, hl2, f0, f1, f2, f3, hb⟩
  have HB1 := Lib.hid (HB.out.trans (hb.mono HB.out.size))
  clear hb HT HB
  have hch := chsT w1 w1.heap.size rfl
  have HN := Lib.hid (narrowT w1.heap.size (w1.heap.size + 3) 3 _ hch)
  have hbA : Below w1.heap.size w1 ((((w1.alloc (.cells #[.int .i64 2, .int .i64 5, .int .i64 10, .int .i64 13] 58)).alloc (.cells #[.int .i64 3, .int .i64 4] 58)).alloc (.cells #[.int .i64 0, .int .i64 7] 58)).alloc
    (.cells #[.int .i64 0, .int .i64 1, .slice (some ⟨w1.heap.size, 0, none⟩) 2 2, .int .i64 1, .int .i64 2, .slice (some ⟨w1.heap.size + 1, 0, none⟩) 1 1, .int .i64 0, .int .i64 2, .slice (some ⟨w1.heap.size + 2, 0, none⟩) 1 1] 91)) :=
    ((((Below.refl _ _).alloc (Nat.le_refl _) _).alloc (by simp) _).alloc (by simp <;> omega) _).alloc (by simp <;> omega) _
  have HBA := Lib.hid hbA
  clear hch hbA
  have F0 := Lib.hid f0; have F1 := Lib.hid f1; have F2 := Lib.hid f2; have F3 := Lib.hid f3
  clear f0 f1 f2 f3
  go_wp2_with fail
  refine HN.out.mono ?_
  rintro e w2 ⟨g, cap, A, c, rfl, hg, gc, gr, hb⟩
  have HBB := Lib.hid (HBA.out.trans (hb.mono HBA.out.size))
  clear hb HN HBA
  have f0 := (HBB.out.cell (p := ⟨bm, 0, none⟩) hl0).trans F0.out
  have f1 := (HBB.out.cell (p := ⟨bm, 1, none⟩) hl0).trans F1.out
  have f2 := (HBB.out.cell (p := ⟨r0, 1, none⟩) hl1).trans F2.out
  have f3 := (HBB.out.cell (p := ⟨r1, 0, none⟩) hl2).trans F3.out
  have hl0 : bm < w2.heap.size := by have := HBB.out.size; omega
  have hl1 : r0 < w2.heap.size := by have := HBB.out.size; omega
  have hl2 : r1 < w2.heap.size := by have := HBB.out.size; omega
  have HB2 := Lib.hid (HB1.out.trans (HBB.out.mono HB1.out.size))
  clear F0 F1 F2 F3 HBB HB1
  have hrd : RdS Sp.enc 2 (w2.alloc (.cells #[.int .i64 0, .int .i64 10, .int .i64 5, .int .i64 15, .int .i64 10, .int .i64 20] 58)) (some ⟨w2.heap.size, 0, none⟩) lP := rd_blk (enc := Sp.enc) (k := 2) w2 lP 58 (fun _ => rfl) (by decide)
  have HP := Lib.hid (pack_any (some ⟨w2.heap.size, 0, none⟩) 3 lP ⟨0, 20⟩ _ hrd (by decide) (by decide) (by decide))
  have HBA := Lib.hid (show Below w2.heap.size w2 (w2.alloc (.cells #[.int .i64 0, .int .i64 10, .int .i64 5, .int .i64 15, .int .i64 10, .int .i64 20] 58)) from (Below.refl _ _).alloc (Nat.le_refl _) _)
  have F0 := Lib.hid f0; have F1 := Lib.hid f1; have F2 := Lib.hid f2; have F3 := Lib.hid f3; have GC := Lib.hid gc; have GR := Lib.hid gr
  clear f0 f1 f2 f3 gc gr hrd
  go_wp2_with fail
  refine HP.out.mono ?_
  rintro e w3 ⟨v, xs, rfl, ho, hp, hs, hb⟩
  rw [packT hp hs] at ho
  clear hp hs HP
  obtain ⟨PA, pc, rfl, hpr⟩ := OwL.rd ho enc57.len (by decide)
  have HPR := Lib.hid hpr
  have HB3 := Lib.hid (HBA.out.trans (hb.mono HBA.out.size))
  have HSA := Lib.hid (schedulesAwake_any w3)
  clear hpr ho hb HBA
  go_wp2_with fail
  refine HSA.out.mono ?_
  rintro e w4 ⟨rfl, hb⟩
  have HB4 := Lib.hid (HB3.out.trans (hb.mono HB3.out.size))
  have HP4 := Lib.hid (HPR.out.below hb)
  clear hb HSA HPR HB3
  have f0 := (HB4.out.cell (p := ⟨bm, 0, none⟩) hl0).trans F0.out
  have f1 := (HB4.out.cell (p := ⟨bm, 1, none⟩) hl0).trans F1.out
  have f2 := (HB4.out.cell (p := ⟨r0, 1, none⟩) hl1).trans F2.out
  have f3 := (HB4.out.cell (p := ⟨r1, 0, none⟩) hl2).trans F3.out
  have gc := (HB4.out.cell (p := ⟨g, 2, none⟩) hg).trans GC.out
  have GR4 := Lib.hid (GR.out.below HB4.out)
  clear F0 F1 F2 F3 GC GR
  have hl0 : bm < w4.heap.size := by have := HB4.out.size; omega
  have hl1 : r0 < w4.heap.size := by have := HB4.out.size; omega
  have hl2 : r1 < w4.heap.size := by have := HB4.out.size; omega
  have hg : g < w4.heap.size := by have := HB4.out.size; omega
  have HB5 := Lib.hid (HB2.out.trans (HB4.out.mono HB2.out.size))
  clear HB4 HB2
  have hE := equal41 A (some ⟨w4.heap.size, 0, none⟩) c 1 [⟨2, 4⟩] [⟨2, 4⟩] (w4.alloc (.cells #[.int .i64 2, .int .i64 4] 58)) (GR4.out.below ((Below.refl _ _).alloc (Nat.le_refl _) _)) (rd_one (enc := Sp.enc) (k := 2) w4 ⟨2, 4⟩ 58)
  have HE := Lib.hid hE
  have HP5 := Lib.hid (HP4.out.below (w' := w4.alloc (.cells #[.int .i64 2, .int .i64 4] 58)) ((Below.refl _ _).alloc (Nat.le_refl _) _))
  have HB6 := Lib.hid (show Below w.heap.size w (w4.alloc (.cells #[.int .i64 2, .int .i64 4] 58)) from HB5.out.alloc HB5.out.size _)
  clear hE GR4 HP4 HB5
  go_wp2_with fail
  refine HE.out.mono ?_
  rintro e w5 ⟨rfl, hb⟩
  have HP6 := Lib.hid (HP5.out.below hb)
  have HB7 := Lib.hid (HB6.out.trans (hb.mono HB6.out.size))
  clear hb HP5 HB6 HE
  have hE := equal37 PA (some ⟨w5.heap.size, 0, none⟩) pc 2 [0, 2] [0, 2] (w5.alloc (.cells #[.int .i64 0, .int .i64 2] 3)) (HP6.out.below ((Below.refl _ _).alloc (Nat.le_refl _) _)) (rd_blk (enc := encI) (k := 1) w5 [0, 2] 3 (fun _ => rfl) (by decide))
  have HE := Lib.hid hE
  have HB8 := Lib.hid (show Below w.heap.size w (w5.alloc (.cells #[.int .i64 0, .int .i64 2] 3)) from HB7.out.alloc HB7.out.size _)
  clear hE HP6 HB7
  go_wp2_with fail
  refine HE.out.mono ?_
  rintro e w6 ⟨rfl, hb⟩
  have HB9 := Lib.hid (HB8.out.trans (hb.mono HB8.out.size))
  clear hb HE HB8
  go_wp2
  go_ret
  exact ⟨ret_bool (by simp), HB9.out⟩
end Go.Proofs.YthilkphnjffnhaaGreat
