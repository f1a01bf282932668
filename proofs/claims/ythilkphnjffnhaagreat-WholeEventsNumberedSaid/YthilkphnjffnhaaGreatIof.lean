/- interval.Of. -/
import Derived.Test.YthilkphnjffnhaaGreatAln
import Derived.Test.YthilkphnjffnhaaGreatOf
import Derived.Test.YthilkphnjffnhaaGreatExt
set_option linter.unusedSimpArgs false
set_option linter.unusedVariables false
namespace Go.Proofs.YthilkphnjffnhaaGreat
open Go.RowKit Go.Shelf

def iofF (s t : Sp) : Int := if validB s.a s.b = true ∧ validB t.a t.b = true then relF s t else -1
theorem sign_at {a b : Int} (k : Int) (h : cmp3 a b = k) (w : World) : Calls Tryz.prog 148 #[.int .i64 a, .int .i64 b] w fun e w' => e = .returned (.int .i64 k) ∧ w = w' := by
  rw [← h]; exact sign_any a b w
theorem ivalid_at {a b : Int} (k : Bool) (h : validB a b = k) (w : World) : Calls Tryz.prog 91 #[.agg #[.int .i64 a, .int .i64 b]] w fun e w' => e = .returned (.bool k) ∧ Below w.heap.size w w' := by
  rw [← h]; exact ivalid_any a b w
theorem cmp3_bd (a b : Int) : -1 ≤ cmp3 a b ∧ cmp3 a b ≤ 1 := by unfold cmp3; split <;> (try split) <;> omega

/-- two spans, each in a block of its own -/
structure Two (w w1 : World) (a b c d : Int) : Prop where
  c1 : w1.cell? ⟨w.heap.size, 0, none⟩ = some (.int .i64 a)
  c2 : w1.cell? ⟨w.heap.size, 1, none⟩ = some (.int .i64 b)
  c3 : w1.cell? ⟨w.heap.size + 1, 0, none⟩ = some (.int .i64 c)
  c4 : w1.cell? ⟨w.heap.size + 1, 1, none⟩ = some (.int .i64 d)
  lt : w.heap.size + 1 < w1.heap.size
  low : Below w.heap.size w w1
theorem two_start (w : World) (a b c d : Int) : Two w ((w.alloc (.cells #[.int .i64 a, .int .i64 b] 58)).alloc (.cells #[.int .i64 c, .int .i64 d] 58)) a b c d := by
  have e : w.heap.size + 1 = (w.alloc (.cells #[.int .i64 a, .int .i64 b] 58)).heap.size := by simp
  refine ⟨?_, ?_, ?_, ?_, by simp, ((Below.refl _ _).alloc (Nat.le_refl _) _).alloc (by simp) _⟩
  · rw [World.cell?_alloc_old _ _ _ (by simp), World.cell?_alloc_new]; rfl
  · rw [World.cell?_alloc_old _ _ _ (by simp), World.cell?_alloc_new]; rfl
  · rw [e, World.cell?_alloc_new]; rfl
  · rw [e, World.cell?_alloc_new]; rfl
theorem Two.below {w w1 w2 : World} {a b c d : Int} (h : Two w w1 a b c d) (hb : Below w1.heap.size w1 w2) : Two w w2 a b c d :=
  ⟨(hb.cell (p := ⟨w.heap.size, 0, none⟩) (by have := h.lt; simp; omega)).trans h.c1, (hb.cell (p := ⟨w.heap.size, 1, none⟩) (by have := h.lt; simp; omega)).trans h.c2,
   (hb.cell (p := ⟨w.heap.size + 1, 0, none⟩) h.lt).trans h.c3, (hb.cell (p := ⟨w.heap.size + 1, 1, none⟩) h.lt).trans h.c4, by have := h.lt; have := hb.size; omega, h.low.trans (hb.mono h.low.size)⟩

set_option maxRecDepth 100000 in
set_option maxHeartbeats 4000000 in
theorem iof_no (s t : Sp) (w : World) (h : ¬ (validB s.a s.b = true ∧ validB t.a t.b = true)) : Calls Tryz.prog 85 #[s.val, t.val] w fun e w' => e = .returned (.int .i64 (-1)) ∧ Below w.heap.size w w' := by
  obtain ⟨a, b⟩ := s
  obtain ⟨c, d⟩ := t
  show Calls Tryz.prog 85 #[.agg #[.int .i64 a, .int .i64 b], .agg #[.int .i64 c, .int .i64 d]] w _
  simp only at h
  cases h1 : validB a b with
  | false =>
    have H1 := fun W => ivalid_at false h1 W
    have HH := Lib.hid H1
    clear H1 h h1
    go_enter Tryz.func85, Tryz.ntmps85
    go_wp2_with fail
    refine (HH.out _).mono ?_
    rintro e w1 ⟨rfl, hb1⟩
    have HB := Lib.hid (show Below w.heap.size w w1 from (((Below.refl _ _).alloc (Nat.le_refl _) _).alloc (by simp) _).trans (hb1.mono (by simp; omega)))
    clear hb1 HH
    go_wp2
    go_ret
    exact ⟨rfl, HB.out⟩
  | true =>
    cases h2 : validB c d with
    | true => exact absurd ⟨h1, h2⟩ h
    | false =>
      have HH := Lib.hid (fun W => ivalid_at true h1 W)
      have HG := Lib.hid (fun W => ivalid_at false h2 W)
      clear h h1 h2
      go_enter Tryz.func85, Tryz.ntmps85
      go_wp2_with fail
      refine (HH.out _).mono ?_
      rintro e w1 ⟨rfl, hb1⟩
      have h2' := (two_start w a b c d).below hb1
      have c3 := h2'.c3
      have c4 := h2'.c4
      have HB := Lib.hid h2'.low
      clear hb1 HH h2'
      go_wp2_with fail
      refine (HG.out _).mono ?_
      rintro e w2 ⟨rfl, hb2⟩
      have HB2 := Lib.hid (HB.out.trans (hb2.mono HB.out.size))
      clear hb2 HG HB
      go_wp2
      go_ret
      exact ⟨rfl, HB2.out⟩

/-- ahead of the comparisons -/
theorem relF_k0 {s t : Sp} (h : cmp3 s.b t.a ≤ 0) : relF s t = cmp3 s.b t.a + 1 := by
  unfold relF; unfold cmp3 at *; repeat' split
  all_goals first | omega | (split at h <;> first | omega | (split at h <;> omega))
theorem relF_k1 {s t : Sp} (h0 : ¬ cmp3 s.b t.a ≤ 0) (h : 0 ≤ cmp3 s.a t.b) : relF s t = 11 + cmp3 s.a t.b := by
  have e : t.a < s.b := by
    unfold cmp3 at h0; split at h0 <;> first | omega | (split at h0 <;> omega)
  unfold relF
  rw [if_neg (by omega), if_neg (by omega)]
  unfold cmp3 at *
  by_cases h1 : t.b < s.a
  · rw [if_pos h1, if_neg (by omega), if_pos h1]; rfl
  · rw [if_neg h1]
    by_cases h2 : s.a = t.b
    · rw [if_pos h2, if_neg (by omega), if_neg (by omega)]; rfl
    · rw [if_pos (by omega)] at h; omega
def tab9 (k1 k2 : Int) : Int := if k1 < 0 then (if k2 < 0 then 2 else if k2 = 0 then 7 else 8) else if k1 = 0 then (if k2 < 0 then 3 else if k2 = 0 then 6 else 9) else (if k2 < 0 then 4 else if k2 = 0 then 5 else 10)
theorem relF_k2 {s t : Sp} (h0 : ¬ cmp3 s.b t.a ≤ 0) (h : ¬ 0 ≤ cmp3 s.a t.b) : relF s t = tab9 (cmp3 s.a t.a) (cmp3 s.b t.b) := by
  have e : t.a < s.b := by
    unfold cmp3 at h0; split at h0 <;> first | omega | (split at h0 <;> omega)
  have e2 : s.a < t.b := by
    unfold cmp3 at h; split at h <;> first | omega | (split at h <;> omega)
  unfold relF tab9
  rw [if_neg (by omega), if_neg (by omega), if_neg (by omega), if_neg (by omega)]
  have x : (s.a < t.a ∧ cmp3 s.a t.a = -1) ∨ (s.a = t.a ∧ cmp3 s.a t.a = 0) ∨ (t.a < s.a ∧ cmp3 s.a t.a = 1) := by unfold cmp3; split <;> (try split) <;> omega
  have y : (s.b < t.b ∧ cmp3 s.b t.b = -1) ∨ (s.b = t.b ∧ cmp3 s.b t.b = 0) ∨ (t.b < s.b ∧ cmp3 s.b t.b = 1) := by unfold cmp3; split <;> (try split) <;> omega
  generalize cmp3 s.a t.a = k at *
  generalize cmp3 s.b t.b = m at *
  clear h0 h e e2
  rcases x with ⟨x, rfl⟩ | ⟨x, rfl⟩ | ⟨x, rfl⟩ <;> rcases y with ⟨y, rfl⟩ | ⟨y, rfl⟩ | ⟨y, rfl⟩ <;> simp <;> repeat' split
  all_goals omega

set_option maxRecDepth 100000 in
set_option maxHeartbeats 4000000 in
theorem iof_yes (s t : Sp) (w : World) (h1 : validB s.a s.b = true) (h2 : validB t.a t.b = true) : Calls Tryz.prog 85 #[s.val, t.val] w fun e w' => e = .returned (.int .i64 (relF s t)) ∧ Below w.heap.size w w' := by
  have R0 := Lib.hid (fun h => @relF_k0 s t h)
  have R1 := Lib.hid (fun h0 h => @relF_k1 s t h0 h)
  have R2 := Lib.hid (fun h0 h => @relF_k2 s t h0 h)
  obtain ⟨a, b⟩ := s
  obtain ⟨c, d⟩ := t
  show Calls Tryz.prog 85 #[.agg #[.int .i64 a, .int .i64 b], .agg #[.int .i64 c, .int .i64 d]] w _
  generalize relF ⟨a, b⟩ ⟨c, d⟩ = r at *
  have HH := Lib.hid (fun W => ivalid_at true h1 W)
  have HG := Lib.hid (fun W => ivalid_at true h2 W)
  clear h1 h2
  obtain ⟨k0, hk0⟩ : ∃ k, cmp3 b c = k := ⟨_, rfl⟩
  obtain ⟨k1, hk1⟩ : ∃ k, cmp3 a d = k := ⟨_, rfl⟩
  obtain ⟨k2, hk2⟩ : ∃ k, cmp3 a c = k := ⟨_, rfl⟩
  obtain ⟨k3, hk3⟩ : ∃ k, cmp3 b d = k := ⟨_, rfl⟩
  have S0 := Lib.hid (fun W => sign_at k0 hk0 W)
  have S1 := Lib.hid (fun W => sign_at k1 hk1 W)
  have S2 := Lib.hid (fun W => sign_at k2 hk2 W)
  have S3 := Lib.hid (fun W => sign_at k3 hk3 W)
  have b0 := cmp3_bd b c
  have b1 := cmp3_bd a d
  have b2 := cmp3_bd a c
  have b3 := cmp3_bd b d
  simp only [hk0, hk1, hk2, hk3] at b0 b1 b2 b3 R0 R1 R2
  obtain ⟨b0l, b0r⟩ := b0; obtain ⟨b1l, b1r⟩ := b1; obtain ⟨b2l, b2r⟩ := b2; obtain ⟨b3l, b3r⟩ := b3
  clear hk0 hk1 hk2 hk3
  go_enter Tryz.func85, Tryz.ntmps85
  go_wp2_with fail
  refine (HH.out _).mono ?_
  rintro e w1 ⟨rfl, hb1⟩
  have h2' := (two_start w a b c d).below hb1
  have c3 := h2'.c3
  have c4 := h2'.c4
  have H2 := Lib.hid h2'
  clear hb1 HH h2'
  go_wp2_with fail
  refine (HG.out _).mono ?_
  rintro e w2 ⟨rfl, hb2⟩
  have H2' := Lib.hid (H2.out.below hb2)
  clear c3 c4 H2 HG hb2
  have c1 := H2'.out.c1
  have c2 := H2'.out.c2
  have c3 := H2'.out.c3
  have c4 := H2'.out.c4
  have lt := H2'.out.lt
  have lt' : w.heap.size < w2.heap.size := by omega
  by_cases g0 : k0 ≤ 0
  · have HR := Lib.hid (R0.out g0)
    clear R0 R1 R2
    go_wp2_with fail
    refine (S0.out _).mono ?_
    rintro e w3 ⟨rfl, rfl⟩
    go_wp2
    go_ret
    exact ⟨ret_int HR.out.symm, H2'.out.low⟩
  · by_cases g1 : 0 ≤ k1
    · have HR := Lib.hid (R1.out (by omega) g1)
      clear R0 R1 R2
      go_wp2_with fail
      refine (S0.out _).mono ?_
      rintro e w3 ⟨rfl, rfl⟩
      go_wp2_with fail
      refine (S1.out _).mono ?_
      rintro e w3 ⟨rfl, rfl⟩
      go_wp2
      go_ret
      exact ⟨ret_int HR.out.symm, H2'.out.low⟩
    · have HR := Lib.hid (R2.out (by omega) (by omega))
      clear R0 R1 R2
      go_wp2_with fail
      refine (S0.out _).mono ?_
      rintro e w3 ⟨rfl, rfl⟩
      go_wp2_with fail
      refine (S1.out _).mono ?_
      rintro e w3 ⟨rfl, rfl⟩
      have k23 : (k2 = -1 ∨ k2 = 0 ∨ k2 = 1) ∧ (k3 = -1 ∨ k3 = 0 ∨ k3 = 1) := by omega
      clear b0l b0r b1l b1r b2l b2r b3l b3r S0 S1
      go_wp2
      clear g0 g1
      have q0 : IntKind.i64.wrap 0 = 0 := by decide
      have q1 : IntKind.i64.wrap 1 = 1 := by decide
      have q2 : IntKind.i64.wrap 2 = 2 := by decide
      rcases k23 with ⟨rfl | rfl | rfl, rfl | rfl | rfl⟩
      all_goals
        refine wp_region_ext (by kernel_rfl) (by kernel_rfl) ?_
        repeat (refine wpQuiet_step (fun K hK => ?_); go_simp; (refine hK _ ?_; clear hK K))
        refine wpQuiet_step (fun K hK => ?_)
        go_simp
        apply Exists.intro
        refine ⟨fun _ => ?_, hK _ ?_⟩
        · exact calls_ext_same (S2.out _)
        clear hK K
        repeat (refine wpQuiet_step (fun K hK => ?_); go_simp; (refine hK _ ?_; clear hK K))
        refine wpQuiet_step (fun K hK => ?_)
        go_simp
        apply Exists.intro
        refine ⟨fun _ => ?_, hK _ ?_⟩
        · exact calls_ext_same (S3.out _)
        clear hK K
        repeat (refine wpQuiet_step (fun K hK => ?_); go_simp; (refine hK _ ?_; clear hK K))
        refine wpQuiet_nil ?_
        intro x
        go_wp2
        go_ret
        exact ⟨ret_int HR.out.symm, H2'.out.low.trans ((((Below.refl _ _).alloc (Nat.le_refl _) _).trans ((below_ext _ x).mono (by simp))).mono H2'.out.low.size)⟩
end Go.Proofs.YthilkphnjffnhaaGreat
