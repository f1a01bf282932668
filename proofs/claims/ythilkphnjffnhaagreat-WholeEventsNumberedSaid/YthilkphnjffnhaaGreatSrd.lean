/- A world that has grown: more draws, new blocks behind the old ones; regions whose operations read, or call what only grows the world, ahead of a forced tail. -/
import Derived.Test.YthilkphnjffnhaaGreatExt
import Derived.Shelf.SlSortCmp.Whole1
import Derived.Test.YthilkphnjffnhaaGreatEql
import Derived.Test.YthilkphnjffnhaaGreatHul
set_option linter.unusedSimpArgs false
set_option linter.unusedVariables false
namespace Go
open Go.RowKit Go.Sort

/-- w, with q draws more and os behind its blocks -/
def Gr (w W : World) : Prop := ∃ q os, W = grow (w.drewN q) os
theorem Gr.refl (w : World) : Gr w w := ⟨0, #[], by simp [grow, World.drewN]⟩
theorem Gr.trans {a b c : World} (h : Gr a b) (h2 : Gr b c) : Gr a c := by
  obtain ⟨q, os, rfl⟩ := h
  obtain ⟨r, os', rfl⟩ := h2
  refine ⟨q + r, os ++ os', ?_⟩
  simp [grow, World.drewN, Array.append_assoc, Nat.add_assoc]
theorem Gr.drew (w : World) : Gr w w.drew := ⟨1, #[], by unfold grow; rw [Array.append_empty]; rfl⟩
theorem Gr.alloc (w : World) (o : Obj) : Gr w (w.alloc o) := ⟨0, #[o], by unfold grow; rw [← Array.push_eq_append]; rfl⟩
theorem Gr.below {w W : World} (h : Gr w W) : Below w.heap.size w W := by
  obtain ⟨q, os, rfl⟩ := h
  refine ⟨rfl, rfl, rfl, by simp [grow, World.drewN], fun k hk => ?_⟩
  simp only [grow, World.drewN]
  rw [Array.getElem?_append]; simp [hk]
/-- w, grown by x -/
def World.gr (w : World) (x : Xt) : World := w.ext ⟨x.o, w.drawn + x.n⟩
section
variable (w : World) (x : Xt)
@[go_sem] theorem World.gr_size : (w.gr x).heap.size = w.heap.size + x.o.size := w.ext_size _
@[go_sem] theorem World.gr_cell {a : Addr} (h : a.block < w.heap.size) : (w.gr x).cell? a = w.cell? a := w.ext_cell _ h
@[go_sem] theorem World.gr_frozen {a : Addr} (h : a.block < w.heap.size) : (w.gr x).frozen? a = w.frozen? a := w.ext_frozen _ h
theorem gr_Gr : Gr w (w.gr x) := ⟨x.n, x.o, rfl⟩
theorem Gr_gr {w W : World} (h : Gr w W) : ∃ x, W = w.gr x := by
  obtain ⟨q, os, rfl⟩ := h
  exact ⟨⟨os, q⟩, rfl⟩
theorem gr_gr {w W : World} {x : Xt} (h : Gr (w.gr x) W) : ∃ y, W = w.gr y := Gr_gr ((gr_Gr w x).trans h)
end
section
variable {P : Program}
/-- Reads and calls that only grow the world, in whatever order, ahead of a tail in its own order. -/
theorem wp_region_gr_tail {id : Nat} {Q : Exit → Act → World → Prop} {a : Act} {w : World} {l : List Oper} (n : Nat) (hm : P.follows .mixedOrders = true) (hB : Region.lexTailB .any l.toArray n = true)
    (h : wpQuiet P l.toArray (fun W => ∃ x, W = w.gr x) (fun a' => ∀ x, wpList P l.toArray Q (l.drop n) a' (w.gr x)) (l.take n) a) : (Code.region id l.toArray true).wp P Q a w := by
  simp only [Region.lexTailB, Bool.and_eq_true, decide_eq_true_eq] at hB
  obtain ⟨⟨⟨⟨hsel, hn⟩, hs⟩, hc⟩, hlex⟩ := hB
  have hn' : n < l.length := by simpa using hn
  have htl : (l.take n).length = n := by simp; omega
  have hdl : (l.drop n).length = l.toArray.size - n := by simp
  have inv0 : HeadInv .any l.toArray n (Array.replicate l.toArray.size false) :=
    ⟨by simp, fun j oj _ hl => (by rw [getD_replicate_false] at hl; cases hl), fun t _ ht => getD_in (by simpa using ht) (getD_replicate_false _ _)⟩
  have H := wpHead_lex (md := .any) (g := l.toArray.size - n) hsel hs hc hn (l.take n) 0 _ a (fun j hj => by
    have hj' : j < n := by rw [htl] at hj; exact hj
    simp [hj']) (by simpa using htl) inv0 (by rw [htl]; exact hlex) h
  refine wp_region_any hm ?_
  have := wpAny_of_wpHead (Q' := Q) (g := l.toArray.size - n) (fun listed a' w' hw' hL => by
    obtain ⟨x, rfl⟩ := hw'
    have := wpAny_of_seq (md := .any) (Q' := Q) (l.drop n) n listed a' (w.gr x) (fun j => by simp [List.getElem?_drop]) (by rw [hdl]; exact hL.1) (hL.2 x)
    rwa [hdl] at this) _ _ _ _ (Gr_gr (Gr.drew w)) H
  rw [htl, show n + (l.toArray.size - n) = l.toArray.size by omega] at this
  exact this
/-- a callee's contract, met at a world that has grown -/
theorem calls_gr {f : FuncId} {args : Array Value} {w : World} {v : Value} {x : Xt}
    (h : Calls P f args (w.gr x) fun e w' => e = .returned v ∧ Gr (w.gr x) w') : Calls P f args (w.gr x) fun e w'' => e = .returned v ∧ ∃ y, w'' = w.gr y :=
  h.mono fun _ w' ⟨he, hb⟩ => ⟨he, gr_gr hb⟩
theorem calls_gr_same {f : FuncId} {args : Array Value} {w : World} {v : Value} {x : Xt}
    (h : Calls P f args (w.gr x) fun e w' => e = .returned v ∧ w.gr x = w') : Calls P f args (w.gr x) fun e w'' => e = .returned v ∧ ∃ y, w'' = w.gr y :=
  h.mono fun _ w' ⟨he, hb⟩ => ⟨he, x, hb.symm⟩
end
end Go

/- cmp.Or of whole numbers: the first that is not 0. -/
namespace Go.Proofs.YthilkphnjffnhaaGreat
open Go.RowKit Go.Shelf

def orF (l : List Int) : Int := (l.find? (fun x => x ≠ 0)).getD 0
theorem orF_skip {l : List Int} {k : Nat} (hk : k < l.length) (h : l[k] = 0) : orF (l.drop k) = orF (l.drop (k + 1)) := by
  rw [List.drop_eq_getElem_cons hk, orF, List.find?_cons, h]; rfl
theorem orF_hit {l : List Int} {k : Nat} (hk : k < l.length) (h : l[k] ≠ 0) : orF (l.drop k) = l[k] := by
  rw [List.drop_eq_getElem_cons hk, orF, List.find?_cons]; simp [h]

theorem or_any (A : Option Addr) (c : Nat) (l : List Int) (w : World) (hs : RdS encI 1 w A l) :
    Calls Tryz.prog 151 #[.slice A l.length c] w fun e w' => e = .returned (.int .i64 (orF l)) ∧ w = w' := by
  have hln := hs.len
  have HS := Lib.hid hs; clear hs
  go_enter Tryz.func151, Tryz.ntmps151
  go_wp2
  go_loopg [5, 8] l.length (fun gg _ s8 wr => ∃ k : Nat, k ≤ l.length ∧ l.length - k ≤ gg ∧ s8 = .int .i64 k ∧ w = wr ∧ Aside (orF (l.drop k) = orF l))
  case atStart => exact ⟨0, Nat.zero_le _, by omega, rfl, rfl, (rfl : _ = _)⟩
  case round =>
    obtain ⟨k, hk, hg, rfl, rfl, HE⟩ := hrel
    have HE' := Lib.hid HE
    clear HE
    by_cases hlt : k < l.length
    · have hltz : (k : Int) < (l.length : Int) := by omega
      obtain ⟨b1, o1, rfl, hb1, c0⟩ := HS.out.s1 hlt
      by_cases h0 : l[k] = 0
      · have HN := Lib.hid ((orF_skip hlt h0).symm.trans HE'.out)
        rw [h0] at c0
        clear h0
        go_wp2
        go_roundg (l.length - (k + 1))
        case measure => omega
        case rel => exact ⟨k + 1, by omega, by omega, by go_num, rfl, HN.out⟩
      · have HN := Lib.hid ((orF_hit hlt h0).symm.trans HE'.out)
        generalize l[k] = x at *
        go_wp2
        go_ret
        exact ⟨ret_int HN.out, rfl⟩
    · have hltz : ¬ (k : Int) < (l.length : Int) := by omega
      obtain rfl : l.length = k := by omega
      have he := HE'.out.out
      rw [List.drop_length] at he
      have HN := Lib.hid he
      clear he
      go_wp2
      go_ret
      exact ⟨ret_int HN.out, rfl⟩
end Go.Proofs.YthilkphnjffnhaaGreat

/- sweep.sorted's comparison. -/
namespace Go.Proofs.YthilkphnjffnhaaGreat
open Go.RowKit Go.Shelf

theorem pack2_any (s : Sp) (w : World) : Calls Tryz.prog 93 (#[s.val] ++ #[]) w fun e w' => e = .returned (.int .i64 s.b) ∧ Gr w w' := by
  obtain ⟨a, b⟩ := s
  show Calls Tryz.prog 93 #[.agg #[.int .i64 a, .int .i64 b]] w _
  go_enter Tryz.func93, Tryz.ntmps93
  go_wp2
  go_ret
  exact ⟨rfl, Gr.alloc _ _⟩

def byKey (key : Sp → Int) (l : List Sp) (i k : Nat) : Int := orF [cmp3 (key (l.getD i default)) (key (l.getD k default)), cmp3 i k]

set_option maxRecDepth 100000 in
set_option maxHeartbeats 4000000 in
theorem sorted1_any (g : Nat) (lb : Array Value) (eg : ∀ args w, (callFunc g args).run Tryz.prog w = .ok (.enter g args) w) (key : Sp → Int) (hkey : ∀ s W, Calls Tryz.prog g (#[s.val] ++ lb) W fun e w' => e = .returned (.int .i64 (key s)) ∧ Gr W w')
    (bk bl : Nat) (A : Option Addr) (c : Nat) (l : List Sp) (i k : Nat) (hi : i < l.length) (hk : k < l.length) (w : World) (hbk : bk < w.heap.size) (hbl : bl < w.heap.size)
    (ck : w.cell? ⟨bk, 0, none⟩ = some (.func (.func g) #[] lb)) (cl : w.cell? ⟨bl, 0, none⟩ = some (.slice A l.length c)) (hs : RdS Sp.enc 2 w A l) :
    Calls Tryz.prog 150 (#[.int .i64 i, .int .i64 k] ++ #[.pointer (some ⟨bk, 0, none⟩), .pointer (some ⟨bl, 0, none⟩)]) w fun e w' => e = .returned (.int .i64 (byKey key l i k)) ∧ Gr w w' := by
  have hln := hs.len
  obtain ⟨b, off, rfl, hb, c0, c1⟩ := hs.at2 hi
  obtain ⟨_, _, e, _, d0, d1⟩ := hs.at2 hk
  cases e
  have HBY := Lib.hid (show byKey key l i k = orF [cmp3 (key (l.getD i default)) (key (l.getD k default)), cmp3 i k] from rfl)
  rw [HBY.out]
  generalize l.getD i default = x at *
  generalize l.getD k default = y at *
  have hx := hkey x
  have hy := hkey y
  obtain ⟨xa, xb⟩ := x
  obtain ⟨ya, yb⟩ := y
  simp only at c0 c1 d0 d1
  generalize key ⟨xa, xb⟩ = kx at *
  generalize key ⟨ya, yb⟩ = ky at *
  have HX := Lib.hid hx; have HY := Lib.hid hy
  have hiz : (i : Int) < (l.length : Int) := by omega
  have hkz : (k : Int) < (l.length : Int) := by omega
  clear hx hy hkey HBY hs
  show Calls Tryz.prog 150 #[.int .i64 i, .int .i64 k, .pointer (some ⟨bk, 0, none⟩), .pointer (some ⟨bl, 0, none⟩)] w _
  go_enter Tryz.func150, Tryz.ntmps150
  go_wp2
  refine wp_region_gr_tail 16 (by kernel_rfl) (by kernel_rfl) ?_
  simp only [List.take_succ_cons, List.take_zero, List.drop_succ_cons, List.drop_zero]
  repeat (refine wpQuiet_step (fun K hK => ?_); go_simp; first | (refine hK _ ?_; clear hK K))
  refine wpQuiet_step (fun K hK => ?_)
  go_simp
  apply Exists.intro
  refine ⟨fun _ => ?_, hK _ ?_⟩
  · exact calls_gr (HX.out _)
  clear hK K
  repeat (refine wpQuiet_step (fun K hK => ?_); go_simp; first | (refine hK _ ?_; clear hK K))
  refine wpQuiet_step (fun K hK => ?_)
  go_simp
  apply Exists.intro
  refine ⟨fun _ => ?_, hK _ ?_⟩
  · exact calls_gr (HY.out _)
  clear hK K
  repeat (refine wpQuiet_step (fun K hK => ?_); go_simp; first | (refine hK _ ?_; clear hK K) | (apply Exists.intro; refine ⟨fun _ => ?_, hK _ ?_⟩; (exact calls_gr_same (compare_any _ _ _)); clear hK K))
  refine wpQuiet_nil ?_
  intro x0
  generalize hW : w.gr x0 = W
  have hG : Gr w W := hW ▸ gr_Gr w x0
  have HG := Lib.hid hG
  clear hW hG
  have hor := fun W => or_any (some ⟨W.heap.size, 0, none⟩) 2 [cmp3 kx ky, cmp3 i k] (W.alloc (.cells #[.int .i64 (cmp3 kx ky), .int .i64 (cmp3 i k)] 3)) (rd_blk (enc := encI) (k := 1) W [cmp3 kx ky, cmp3 i k] 3 (fun _ => rfl) (by simp))
  have HOR := Lib.hid (hor W)
  clear hor
  go_wp2_with fail
  refine HOR.out.mono ?_
  rintro e w' ⟨rfl, rfl⟩
  go_wp2
  go_ret
  exact ⟨rfl, HG.out.trans (Gr.alloc _ _)⟩
end Go.Proofs.YthilkphnjffnhaaGreat
