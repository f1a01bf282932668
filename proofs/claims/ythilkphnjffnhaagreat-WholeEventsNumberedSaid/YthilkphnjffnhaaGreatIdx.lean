/- slices.IndexFunc and slices.ContainsFunc answer by the first element that meets a predicate, at the element types of the program; the predicate may lay memory of its own. -/
import Derived.Test.YthilkphnjffnhaaGreatRows
import Derived.Test.YthilkphnjffnhaaGreatBase
set_option linter.unusedSimpArgs false
set_option linter.unusedVariables false
namespace Go.Proofs.YthilkphnjffnhaaGreat
open Go.RowKit Go.Shelf

set_option maxHeartbeats 1000000 in
theorem indexFunc132 (g : Nat) (lb : Array Value) (eg : ∀ args w, (callFunc g args).run Tryz.prog w = .ok (.enter g args) w) (p : Bd → Bool)
    (A : Option Addr) (c : Nat) (xs : List Bd) (w : World) (hs : RdS Bd.enc 3 w A xs) (hp : PredOn Tryz.prog g lb Bd.val p xs w) :
    Calls Tryz.prog 132 #[.slice A xs.length c, .func (.func g) #[] lb] w fun e w' => e = .returned (.int .i64 (idxOf p xs)) ∧ Below w.heap.size w w' := by
  have hlen := hs.len
  go_enter Tryz.func132, Tryz.ntmps132
  go_wp2
  go_loopg [5, 8] xs.length (fun gg _ s8 wr => ∃ kk : Nat, kk ≤ xs.length ∧ xs.length - kk ≤ gg ∧ s8 = .int .i64 kk ∧ Aside (Below w.heap.size w wr) ∧ Aside (∀ j (hj : j < xs.length), j < kk → p xs[j] = false))
  case atStart => exact ⟨0, Nat.zero_le _, by omega, rfl, Below.refl _ w, fun j _ hj => absurd hj (Nat.not_lt_zero _)⟩
  case round =>
    obtain ⟨kk, hkk, hg, rfl, BW, N⟩ := hrel
    by_cases hlt : kk < xs.length
    · have hltz : (kk : Int) < (xs.length : Int) := by omega
      obtain ⟨b, off, rfl, hb, hc⟩ := hs.at_ kk hlt
      have hcall := hp _ (List.getElem_mem hlt) wr BW.out
      have c0 := (BW.out.cell (p := ⟨b, off + kk * 3, none⟩) hb).trans (hc 0 _ rfl)
      have c1 := (BW.out.cell (p := ⟨b, off + kk * 3 + 1, none⟩) hb).trans (hc 1 _ rfl)
      have c2 := (BW.out.cell (p := ⟨b, off + kk * 3 + 2, none⟩) hb).trans (hc 2 _ rfl)
      clear hc hp hs
      generalize hy : xs[kk] = y at *
      have Y : Aside (xs[kk] = y) := hy
      clear hy
      cases hq : p y with
      | true =>
        rw [hq] at hcall
        have HQ := Lib.hid hq; clear hq
        go_wp2_with (go_at_fn g; refine hcall.mono ?_; rintro e w' ⟨rfl, hb'⟩)
        go_ret
        exact ⟨by rw [idxOf_hit hlt (by rw [Y.out]; exact HQ.out) N.out]; rfl, BW.out.trans (hb'.mono BW.out.size)⟩
      | false =>
        rw [hq] at hcall
        have HQ := Lib.hid hq; clear hq
        go_wp2_with (go_at_fn g; refine hcall.mono ?_; rintro e w' ⟨rfl, hb'⟩)
        go_roundg (xs.length - (kk + 1))
        case measure => omega
        case rel =>
          refine ⟨kk + 1, by omega, by omega, by go_num, BW.out.trans (hb'.mono BW.out.size), (show Aside _ from fun j hj hjk => ?_)⟩
          by_cases e : j = kk
          · subst e
            rw [Y.out]; exact HQ.out
          · exact N.out j hj (by omega)
    · have hltz : ¬ (kk : Int) < (xs.length : Int) := by omega
      have : kk = xs.length := by omega
      subst this
      go_wp2
      go_ret
      exact ⟨by rw [idxOf_miss (fun j hj => N.out j hj hj)]; rfl, BW.out⟩

theorem containsFunc67 (g : Nat) (lb : Array Value) (eg : ∀ args w, (callFunc g args).run Tryz.prog w = .ok (.enter g args) w) (p : Bd → Bool)
    (A : Option Addr) (c : Nat) (xs : List Bd) (w : World) (hs : RdS Bd.enc 3 w A xs) (hp : PredOn Tryz.prog g lb Bd.val p xs w) :
    Calls Tryz.prog 67 #[.slice A xs.length c, .func (.func g) #[] lb] w fun e w' => e = .returned (.bool (xs.any p)) ∧ Below w.heap.size w w' := by
  go_enter Tryz.func67, Tryz.ntmps67
  go_wp2_with (go_at_call 132; refine (indexFunc132 g lb eg p A c xs w hs hp).mono ?_; rintro e w' ⟨rfl, hb'⟩)
  go_ret
  exact ⟨ret_bool (by rw [← idxOf_any]), hb'⟩

set_option maxHeartbeats 1000000 in
theorem indexFunc140 (g : Nat) (lb : Array Value) (eg : ∀ args w, (callFunc g args).run Tryz.prog w = .ok (.enter g args) w) (p : Rl → Bool)
    (A : Option Addr) (c : Nat) (xs : List Rl) (w : World) (hs : RdS Rl.enc 3 w A xs) (hp : PredOn Tryz.prog g lb Rl.val p xs w) :
    Calls Tryz.prog 140 #[.slice A xs.length c, .func (.func g) #[] lb] w fun e w' => e = .returned (.int .i64 (idxOf p xs)) ∧ Below w.heap.size w w' := by
  have hlen := hs.len
  go_enter Tryz.func140, Tryz.ntmps140
  go_wp2
  go_loopg [5, 8] xs.length (fun gg _ s8 wr => ∃ kk : Nat, kk ≤ xs.length ∧ xs.length - kk ≤ gg ∧ s8 = .int .i64 kk ∧ Aside (Below w.heap.size w wr) ∧ Aside (∀ j (hj : j < xs.length), j < kk → p xs[j] = false))
  case atStart => exact ⟨0, Nat.zero_le _, by omega, rfl, Below.refl _ w, fun j _ hj => absurd hj (Nat.not_lt_zero _)⟩
  case round =>
    obtain ⟨kk, hkk, hg, rfl, BW, N⟩ := hrel
    by_cases hlt : kk < xs.length
    · have hltz : (kk : Int) < (xs.length : Int) := by omega
      obtain ⟨b, off, rfl, hb, hc⟩ := hs.at_ kk hlt
      have hcall := hp _ (List.getElem_mem hlt) wr BW.out
      have c0 := (BW.out.cell (p := ⟨b, off + kk * 3, none⟩) hb).trans (hc 0 _ rfl)
      have c1 := (BW.out.cell (p := ⟨b, off + kk * 3 + 1, none⟩) hb).trans (hc 1 _ rfl)
      have c2 := (BW.out.cell (p := ⟨b, off + kk * 3 + 2, none⟩) hb).trans (hc 2 _ rfl)
      clear hc hp hs
      generalize hy : xs[kk] = y at *
      have Y : Aside (xs[kk] = y) := hy
      clear hy
      cases hq : p y with
      | true =>
        rw [hq] at hcall
        have HQ := Lib.hid hq; clear hq
        go_wp2_with (go_at_fn g; refine hcall.mono ?_; rintro e w' ⟨rfl, hb'⟩)
        go_ret
        exact ⟨by rw [idxOf_hit hlt (by rw [Y.out]; exact HQ.out) N.out]; rfl, BW.out.trans (hb'.mono BW.out.size)⟩
      | false =>
        rw [hq] at hcall
        have HQ := Lib.hid hq; clear hq
        go_wp2_with (go_at_fn g; refine hcall.mono ?_; rintro e w' ⟨rfl, hb'⟩)
        go_roundg (xs.length - (kk + 1))
        case measure => omega
        case rel =>
          refine ⟨kk + 1, by omega, by omega, by go_num, BW.out.trans (hb'.mono BW.out.size), (show Aside _ from fun j hj hjk => ?_)⟩
          by_cases e : j = kk
          · subst e
            rw [Y.out]; exact HQ.out
          · exact N.out j hj (by omega)
    · have hltz : ¬ (kk : Int) < (xs.length : Int) := by omega
      have : kk = xs.length := by omega
      subst this
      go_wp2
      go_ret
      exact ⟨by rw [idxOf_miss (fun j hj => N.out j hj hj)]; rfl, BW.out⟩

theorem containsFunc73 (g : Nat) (lb : Array Value) (eg : ∀ args w, (callFunc g args).run Tryz.prog w = .ok (.enter g args) w) (p : Rl → Bool)
    (A : Option Addr) (c : Nat) (xs : List Rl) (w : World) (hs : RdS Rl.enc 3 w A xs) (hp : PredOn Tryz.prog g lb Rl.val p xs w) :
    Calls Tryz.prog 73 #[.slice A xs.length c, .func (.func g) #[] lb] w fun e w' => e = .returned (.bool (xs.any p)) ∧ Below w.heap.size w w' := by
  go_enter Tryz.func73, Tryz.ntmps73
  go_wp2_with (go_at_call 140; refine (indexFunc140 g lb eg p A c xs w hs hp).mono ?_; rintro e w' ⟨rfl, hb'⟩)
  go_ret
  exact ⟨ret_bool (by rw [← idxOf_any]), hb'⟩

set_option maxHeartbeats 1000000 in
theorem indexFunc115 (g : Nat) (lb : Array Value) (eg : ∀ args w, (callFunc g args).run Tryz.prog w = .ok (.enter g args) w) (p : Sp → Bool)
    (A : Option Addr) (c : Nat) (xs : List Sp) (w : World) (hs : RdS Sp.enc 2 w A xs) (hp : PredOn Tryz.prog g lb Sp.val p xs w) :
    Calls Tryz.prog 115 #[.slice A xs.length c, .func (.func g) #[] lb] w fun e w' => e = .returned (.int .i64 (idxOf p xs)) ∧ Below w.heap.size w w' := by
  have hlen := hs.len
  go_enter Tryz.func115, Tryz.ntmps115
  go_wp2
  go_loopg [5, 8] xs.length (fun gg _ s8 wr => ∃ kk : Nat, kk ≤ xs.length ∧ xs.length - kk ≤ gg ∧ s8 = .int .i64 kk ∧ Aside (Below w.heap.size w wr) ∧ Aside (∀ j (hj : j < xs.length), j < kk → p xs[j] = false))
  case atStart => exact ⟨0, Nat.zero_le _, by omega, rfl, Below.refl _ w, fun j _ hj => absurd hj (Nat.not_lt_zero _)⟩
  case round =>
    obtain ⟨kk, hkk, hg, rfl, BW, N⟩ := hrel
    by_cases hlt : kk < xs.length
    · have hltz : (kk : Int) < (xs.length : Int) := by omega
      obtain ⟨b, off, rfl, hb, hc⟩ := hs.at_ kk hlt
      have hcall := hp _ (List.getElem_mem hlt) wr BW.out
      have c0 := (BW.out.cell (p := ⟨b, off + kk * 2, none⟩) hb).trans (hc 0 _ rfl)
      have c1 := (BW.out.cell (p := ⟨b, off + kk * 2 + 1, none⟩) hb).trans (hc 1 _ rfl)
      clear hc hp hs
      generalize hy : xs[kk] = y at *
      have Y : Aside (xs[kk] = y) := hy
      clear hy
      cases hq : p y with
      | true =>
        rw [hq] at hcall
        have HQ := Lib.hid hq; clear hq
        go_wp2_with (go_at_fn g; refine hcall.mono ?_; rintro e w' ⟨rfl, hb'⟩)
        go_ret
        exact ⟨by rw [idxOf_hit hlt (by rw [Y.out]; exact HQ.out) N.out]; rfl, BW.out.trans (hb'.mono BW.out.size)⟩
      | false =>
        rw [hq] at hcall
        have HQ := Lib.hid hq; clear hq
        go_wp2_with (go_at_fn g; refine hcall.mono ?_; rintro e w' ⟨rfl, hb'⟩)
        go_roundg (xs.length - (kk + 1))
        case measure => omega
        case rel =>
          refine ⟨kk + 1, by omega, by omega, by go_num, BW.out.trans (hb'.mono BW.out.size), (show Aside _ from fun j hj hjk => ?_)⟩
          by_cases e : j = kk
          · subst e
            rw [Y.out]; exact HQ.out
          · exact N.out j hj (by omega)
    · have hltz : ¬ (kk : Int) < (xs.length : Int) := by omega
      have : kk = xs.length := by omega
      subst this
      go_wp2
      go_ret
      exact ⟨by rw [idxOf_miss (fun j hj => N.out j hj hj)]; rfl, BW.out⟩

theorem containsFunc53 (g : Nat) (lb : Array Value) (eg : ∀ args w, (callFunc g args).run Tryz.prog w = .ok (.enter g args) w) (p : Sp → Bool)
    (A : Option Addr) (c : Nat) (xs : List Sp) (w : World) (hs : RdS Sp.enc 2 w A xs) (hp : PredOn Tryz.prog g lb Sp.val p xs w) :
    Calls Tryz.prog 53 #[.slice A xs.length c, .func (.func g) #[] lb] w fun e w' => e = .returned (.bool (xs.any p)) ∧ Below w.heap.size w w' := by
  go_enter Tryz.func53, Tryz.ntmps53
  go_wp2_with (go_at_call 115; refine (indexFunc115 g lb eg p A c xs w hs hp).mono ?_; rintro e w' ⟨rfl, hb'⟩)
  go_ret
  exact ⟨ret_bool (by rw [← idxOf_any]), hb'⟩

set_option maxHeartbeats 1000000 in
theorem indexFunc163 (g : Nat) (lb : Array Value) (eg : ∀ args w, (callFunc g args).run Tryz.prog w = .ok (.enter g args) w) (p : Ch → Bool)
    (A : Option Addr) (c : Nat) (xs : List Ch) (w : World) (hs : RdS Ch.enc 3 w A xs) (hp : PredOn Tryz.prog g lb Ch.val p xs w) :
    Calls Tryz.prog 163 #[.slice A xs.length c, .func (.func g) #[] lb] w fun e w' => e = .returned (.int .i64 (idxOf p xs)) ∧ Below w.heap.size w w' := by
  have hlen := hs.len
  go_enter Tryz.func163, Tryz.ntmps163
  go_wp2
  go_loopg [5, 8] xs.length (fun gg _ s8 wr => ∃ kk : Nat, kk ≤ xs.length ∧ xs.length - kk ≤ gg ∧ s8 = .int .i64 kk ∧ Aside (Below w.heap.size w wr) ∧ Aside (∀ j (hj : j < xs.length), j < kk → p xs[j] = false))
  case atStart => exact ⟨0, Nat.zero_le _, by omega, rfl, Below.refl _ w, fun j _ hj => absurd hj (Nat.not_lt_zero _)⟩
  case round =>
    obtain ⟨kk, hkk, hg, rfl, BW, N⟩ := hrel
    by_cases hlt : kk < xs.length
    · have hltz : (kk : Int) < (xs.length : Int) := by omega
      obtain ⟨b, off, rfl, hb, hc⟩ := hs.at_ kk hlt
      have hcall := hp _ (List.getElem_mem hlt) wr BW.out
      have c0 := (BW.out.cell (p := ⟨b, off + kk * 3, none⟩) hb).trans (hc 0 _ rfl)
      have c1 := (BW.out.cell (p := ⟨b, off + kk * 3 + 1, none⟩) hb).trans (hc 1 _ rfl)
      have c2 := (BW.out.cell (p := ⟨b, off + kk * 3 + 2, none⟩) hb).trans (hc 2 _ rfl)
      clear hc hp hs
      generalize hy : xs[kk] = y at *
      have Y : Aside (xs[kk] = y) := hy
      clear hy
      cases hq : p y with
      | true =>
        rw [hq] at hcall
        have HQ := Lib.hid hq; clear hq
        go_wp2_with (go_at_fn g; refine hcall.mono ?_; rintro e w' ⟨rfl, hb'⟩)
        go_ret
        exact ⟨by rw [idxOf_hit hlt (by rw [Y.out]; exact HQ.out) N.out]; rfl, BW.out.trans (hb'.mono BW.out.size)⟩
      | false =>
        rw [hq] at hcall
        have HQ := Lib.hid hq; clear hq
        go_wp2_with (go_at_fn g; refine hcall.mono ?_; rintro e w' ⟨rfl, hb'⟩)
        go_roundg (xs.length - (kk + 1))
        case measure => omega
        case rel =>
          refine ⟨kk + 1, by omega, by omega, by go_num, BW.out.trans (hb'.mono BW.out.size), (show Aside _ from fun j hj hjk => ?_)⟩
          by_cases e : j = kk
          · subst e
            rw [Y.out]; exact HQ.out
          · exact N.out j hj (by omega)
    · have hltz : ¬ (kk : Int) < (xs.length : Int) := by omega
      have : kk = xs.length := by omega
      subst this
      go_wp2
      go_ret
      exact ⟨by rw [idxOf_miss (fun j hj => N.out j hj hj)]; rfl, BW.out⟩

theorem containsFunc108 (g : Nat) (lb : Array Value) (eg : ∀ args w, (callFunc g args).run Tryz.prog w = .ok (.enter g args) w) (p : Ch → Bool)
    (A : Option Addr) (c : Nat) (xs : List Ch) (w : World) (hs : RdS Ch.enc 3 w A xs) (hp : PredOn Tryz.prog g lb Ch.val p xs w) :
    Calls Tryz.prog 108 #[.slice A xs.length c, .func (.func g) #[] lb] w fun e w' => e = .returned (.bool (xs.any p)) ∧ Below w.heap.size w w' := by
  go_enter Tryz.func108, Tryz.ntmps108
  go_wp2_with (go_at_call 163; refine (indexFunc163 g lb eg p A c xs w hs hp).mono ?_; rintro e w' ⟨rfl, hb'⟩)
  go_ret
  exact ⟨ret_bool (by rw [← idxOf_any]), hb'⟩

set_option maxHeartbeats 1000000 in
theorem indexFunc191 (g : Nat) (lb : Array Value) (eg : ∀ args w, (callFunc g args).run Tryz.prog w = .ok (.enter g args) w) (p : Rw → Bool)
    (A : Option Addr) (c : Nat) (xs : List Rw) (w : World) (hs : RdS Rw.enc 1 w A xs) (hp : PredOn Tryz.prog g lb Rw.val p xs w) :
    Calls Tryz.prog 191 #[.slice A xs.length c, .func (.func g) #[] lb] w fun e w' => e = .returned (.int .i64 (idxOf p xs)) ∧ Below w.heap.size w w' := by
  have hlen := hs.len
  go_enter Tryz.func191, Tryz.ntmps191
  go_wp2
  go_loopg [5, 8] xs.length (fun gg _ s8 wr => ∃ kk : Nat, kk ≤ xs.length ∧ xs.length - kk ≤ gg ∧ s8 = .int .i64 kk ∧ Aside (Below w.heap.size w wr) ∧ Aside (∀ j (hj : j < xs.length), j < kk → p xs[j] = false))
  case atStart => exact ⟨0, Nat.zero_le _, by omega, rfl, Below.refl _ w, fun j _ hj => absurd hj (Nat.not_lt_zero _)⟩
  case round =>
    obtain ⟨kk, hkk, hg, rfl, BW, N⟩ := hrel
    by_cases hlt : kk < xs.length
    · have hltz : (kk : Int) < (xs.length : Int) := by omega
      obtain ⟨b, off, rfl, hb, hc⟩ := hs.at_ kk hlt
      have hcall := hp _ (List.getElem_mem hlt) wr BW.out
      have c0 : wr.cell? ⟨b, off + kk, none⟩ = _ := (BW.out.cell (p := ⟨b, off + kk, none⟩) hb).trans (by simpa using hc 0 _ rfl)
      clear hc hp hs
      generalize hy : xs[kk] = y at *
      have Y : Aside (xs[kk] = y) := hy
      clear hy
      cases hq : p y with
      | true =>
        rw [hq] at hcall
        have HQ := Lib.hid hq; clear hq
        go_wp2_with (go_at_fn g; refine hcall.mono ?_; rintro e w' ⟨rfl, hb'⟩)
        go_ret
        exact ⟨by rw [idxOf_hit hlt (by rw [Y.out]; exact HQ.out) N.out]; rfl, BW.out.trans (hb'.mono BW.out.size)⟩
      | false =>
        rw [hq] at hcall
        have HQ := Lib.hid hq; clear hq
        go_wp2_with (go_at_fn g; refine hcall.mono ?_; rintro e w' ⟨rfl, hb'⟩)
        go_roundg (xs.length - (kk + 1))
        case measure => omega
        case rel =>
          refine ⟨kk + 1, by omega, by omega, by go_num, BW.out.trans (hb'.mono BW.out.size), (show Aside _ from fun j hj hjk => ?_)⟩
          by_cases e : j = kk
          · subst e
            rw [Y.out]; exact HQ.out
          · exact N.out j hj (by omega)
    · have hltz : ¬ (kk : Int) < (xs.length : Int) := by omega
      have : kk = xs.length := by omega
      subst this
      go_wp2
      go_ret
      exact ⟨by rw [idxOf_miss (fun j hj => N.out j hj hj)]; rfl, BW.out⟩

theorem containsFunc134 (g : Nat) (lb : Array Value) (eg : ∀ args w, (callFunc g args).run Tryz.prog w = .ok (.enter g args) w) (p : Rw → Bool)
    (A : Option Addr) (c : Nat) (xs : List Rw) (w : World) (hs : RdS Rw.enc 1 w A xs) (hp : PredOn Tryz.prog g lb Rw.val p xs w) :
    Calls Tryz.prog 134 #[.slice A xs.length c, .func (.func g) #[] lb] w fun e w' => e = .returned (.bool (xs.any p)) ∧ Below w.heap.size w w' := by
  go_enter Tryz.func134, Tryz.ntmps134
  go_wp2_with (go_at_call 191; refine (indexFunc191 g lb eg p A c xs w hs hp).mono ?_; rintro e w' ⟨rfl, hb'⟩)
  go_ret
  exact ⟨ret_bool (by rw [← idxOf_any]), hb'⟩

set_option maxHeartbeats 1000000 in
theorem indexFunc192 (g : Nat) (lb : Array Value) (eg : ∀ args w, (callFunc g args).run Tryz.prog w = .ok (.enter g args) w) (p : Int → Bool)
    (A : Option Addr) (c : Nat) (xs : List Int) (w : World) (hs : RdS encI 1 w A xs) (hp : PredOn Tryz.prog g lb valI p xs w) :
    Calls Tryz.prog 192 #[.slice A xs.length c, .func (.func g) #[] lb] w fun e w' => e = .returned (.int .i64 (idxOf p xs)) ∧ Below w.heap.size w w' := by
  have hlen := hs.len
  go_enter Tryz.func192, Tryz.ntmps192
  go_wp2
  go_loopg [5, 8] xs.length (fun gg _ s8 wr => ∃ kk : Nat, kk ≤ xs.length ∧ xs.length - kk ≤ gg ∧ s8 = .int .i64 kk ∧ Aside (Below w.heap.size w wr) ∧ Aside (∀ j (hj : j < xs.length), j < kk → p xs[j] = false))
  case atStart => exact ⟨0, Nat.zero_le _, by omega, rfl, Below.refl _ w, fun j _ hj => absurd hj (Nat.not_lt_zero _)⟩
  case round =>
    obtain ⟨kk, hkk, hg, rfl, BW, N⟩ := hrel
    by_cases hlt : kk < xs.length
    · have hltz : (kk : Int) < (xs.length : Int) := by omega
      obtain ⟨b, off, rfl, hb, hc⟩ := hs.at_ kk hlt
      have hcall := hp _ (List.getElem_mem hlt) wr BW.out
      have c0 : wr.cell? ⟨b, off + kk, none⟩ = _ := (BW.out.cell (p := ⟨b, off + kk, none⟩) hb).trans (by simpa using hc 0 _ rfl)
      clear hc hp hs
      generalize hy : xs[kk] = y at *
      have Y : Aside (xs[kk] = y) := hy
      clear hy
      cases hq : p y with
      | true =>
        rw [hq] at hcall
        have HQ := Lib.hid hq; clear hq
        go_wp2_with (go_at_fn g; refine hcall.mono ?_; rintro e w' ⟨rfl, hb'⟩)
        go_ret
        exact ⟨by rw [idxOf_hit hlt (by rw [Y.out]; exact HQ.out) N.out]; rfl, BW.out.trans (hb'.mono BW.out.size)⟩
      | false =>
        rw [hq] at hcall
        have HQ := Lib.hid hq; clear hq
        go_wp2_with (go_at_fn g; refine hcall.mono ?_; rintro e w' ⟨rfl, hb'⟩)
        go_roundg (xs.length - (kk + 1))
        case measure => omega
        case rel =>
          refine ⟨kk + 1, by omega, by omega, by go_num, BW.out.trans (hb'.mono BW.out.size), (show Aside _ from fun j hj hjk => ?_)⟩
          by_cases e : j = kk
          · subst e
            rw [Y.out]; exact HQ.out
          · exact N.out j hj (by omega)
    · have hltz : ¬ (kk : Int) < (xs.length : Int) := by omega
      have : kk = xs.length := by omega
      subst this
      go_wp2
      go_ret
      exact ⟨by rw [idxOf_miss (fun j hj => N.out j hj hj)]; rfl, BW.out⟩

theorem containsFunc137 (g : Nat) (lb : Array Value) (eg : ∀ args w, (callFunc g args).run Tryz.prog w = .ok (.enter g args) w) (p : Int → Bool)
    (A : Option Addr) (c : Nat) (xs : List Int) (w : World) (hs : RdS encI 1 w A xs) (hp : PredOn Tryz.prog g lb valI p xs w) :
    Calls Tryz.prog 137 #[.slice A xs.length c, .func (.func g) #[] lb] w fun e w' => e = .returned (.bool (xs.any p)) ∧ Below w.heap.size w w' := by
  go_enter Tryz.func137, Tryz.ntmps137
  go_wp2_with (go_at_call 192; refine (indexFunc192 g lb eg p A c xs w hs hp).mono ?_; rintro e w' ⟨rfl, hb'⟩)
  go_ret
  exact ⟨ret_bool (by rw [← idxOf_any]), hb'⟩

end Go.Proofs.YthilkphnjffnhaaGreat
