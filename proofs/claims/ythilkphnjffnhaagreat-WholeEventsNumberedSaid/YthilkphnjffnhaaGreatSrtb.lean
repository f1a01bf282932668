/- The shelf's contract of slices.SortFunc, laid at the struct types of the program. -/
import Derived.Shelf.SlSortCmp.WholeK
import Derived.Test.YthilkphnjffnhaaGreatProg
import Derived.Test.YthilkphnjffnhaaGreatOwn
import Derived.Test.YthilkphnjffnhaaGreatLeaf
set_option linter.unusedSimpArgs false
set_option linter.unusedVariables false
namespace Go.Proofs.YthilkphnjffnhaaGreat
open Go.Shelf

def sortSpRen : Go.Shelf.Ren := ⟨fun | 6 => 154 | 15 => 159 | 14 => 196 | 28 => 206 | 29 => 207 | 20 => 266 | 21 => 267 | 22 => 268 | 23 => 269 | 24 => 270 | 25 => 271 | 26 => 272 | 27 => 273 | 46 => 302 | 47 => 275 | 48 => 276 | 49 => 303 | 50 => 304 | 57 => 326 | n => n, fun | 22 => 56 | 24 => 58 | 25 => 134 | 3 => 3 | 39 => 44 | 0 => 0 | 53 => 246 | 55 => 248 | 4 => 4 | 46 => 240 | 45 => 239 | 50 => 200 | 5 => 5 | 9 => 9 | 66 => 303 | 70 => 307 | 76 => 336 | 77 => 120 | n => n, fun | n => n⟩
theorem sortSp : Go.Proofs.SlLaysF0.n6 Tryz.prog sortSpRen := {
  mixed := by kernel_rfl
  f6 := ⟨Tryz.f154.name, by decide, Tryz.func154.trans (congrArg some (by kernel_rfl))⟩
  f14 := ⟨Tryz.f196.name, by decide, Tryz.func196.trans (congrArg some (by kernel_rfl))⟩
  f15 := Tryz.func159.trans (congrArg some (by kernel_rfl))
  f20 := ⟨Tryz.f266.name, by decide, Tryz.func266.trans (congrArg some (by kernel_rfl))⟩
  f21 := ⟨Tryz.f267.name, by decide, Tryz.func267.trans (congrArg some (by kernel_rfl))⟩
  f22 := ⟨Tryz.f268.name, by decide, Tryz.func268.trans (congrArg some (by kernel_rfl))⟩
  f23 := ⟨Tryz.f269.name, by decide, Tryz.func269.trans (congrArg some (by kernel_rfl))⟩
  f24 := ⟨Tryz.f270.name, by decide, Tryz.func270.trans (congrArg some (by kernel_rfl))⟩
  f25 := ⟨Tryz.f271.name, by decide, Tryz.func271.trans (congrArg some (by kernel_rfl))⟩
  f26 := ⟨Tryz.f272.name, by decide, Tryz.func272.trans (congrArg some (by kernel_rfl))⟩
  f27 := ⟨Tryz.f273.name, by decide, Tryz.func273.trans (congrArg some (by kernel_rfl))⟩
  f28 := Tryz.func206.trans (congrArg some (by kernel_rfl))
  f29 := Tryz.func207.trans (congrArg some (by kernel_rfl))
  f46 := ⟨Tryz.f302.name, by decide, Tryz.func302.trans (congrArg some (by kernel_rfl))⟩
  f47 := Tryz.func275.trans (congrArg some (by kernel_rfl))
  f48 := Tryz.func276.trans (congrArg some (by kernel_rfl))
  f49 := ⟨Tryz.f303.name, by decide, Tryz.func303.trans (congrArg some (by kernel_rfl))⟩
  f50 := ⟨Tryz.f304.name, by decide, Tryz.func304.trans (congrArg some (by kernel_rfl))⟩
  f57 := ⟨Tryz.f326.name, by decide, Tryz.func326.trans (congrArg some (by kernel_rfl))⟩
  t0 := Tryz.underlying0
  a0 := Tryz.isAgg0
  z0 := Tryz.sizeOf0
  v0 := Tryz.zeroValue0
  t3 := Tryz.underlying3
  a3 := Tryz.isAgg3
  z3 := Tryz.sizeOf3
  v3 := Tryz.zeroValue3
  t4 := Tryz.underlying4
  a4 := Tryz.isAgg4
  z4 := Tryz.sizeOf4
  v4 := Tryz.zeroValue4
  t5 := Tryz.underlying5
  a5 := Tryz.isAgg5
  z5 := Tryz.sizeOf5
  v5 := Tryz.zeroValue5
  t9 := Tryz.underlying9
  a9 := Tryz.isAgg9
  z9 := Tryz.sizeOf9
  v9 := Tryz.zeroValue9
  t22 := Tryz.underlying56
  a22 := Tryz.isAgg56
  z22 := Tryz.sizeOf56
  v22 := Tryz.zeroValue56
  t25 := Tryz.underlying134
  a25 := Tryz.isAgg134
  z25 := Tryz.sizeOf134
  v25 := Tryz.zeroValue134
  t39 := Tryz.underlying44
  a39 := Tryz.isAgg44
  z39 := Tryz.sizeOf44
  v39 := Tryz.zeroValue44
  t45 := Tryz.underlying239
  a45 := Tryz.isAgg239
  z45 := Tryz.sizeOf239
  v45 := Tryz.zeroValue239
  t46 := Tryz.underlying240
  a46 := Tryz.isAgg240
  z46 := Tryz.sizeOf240
  v46 := Tryz.zeroValue240
  t50 := Tryz.underlying200
  a50 := Tryz.isAgg200
  z50 := Tryz.sizeOf200
  v50 := Tryz.zeroValue200
  t53 := Tryz.underlying246
  a53 := Tryz.isAgg246
  z53 := Tryz.sizeOf246
  v53 := Tryz.zeroValue246
  t55 := Tryz.underlying248
  a55 := Tryz.isAgg248
  z55 := Tryz.sizeOf248
  v55 := Tryz.zeroValue248
  t66 := Tryz.underlying303
  a66 := Tryz.isAgg303
  z66 := Tryz.sizeOf303
  v66 := Tryz.zeroValue303
  t70 := Tryz.underlying307
  a70 := Tryz.isAgg307
  z70 := Tryz.sizeOf307
  v70 := Tryz.zeroValue307
  t76 := Tryz.underlying336
  a76 := Tryz.isAgg336
  z76 := Tryz.sizeOf336
  v76 := Tryz.zeroValue336
  t77 := Tryz.underlying120
  a77 := Tryz.isAgg120
  z77 := Tryz.sizeOf120
  v77 := Tryz.zeroValue120 }

end Go.Proofs.YthilkphnjffnhaaGreat

/- slices.SortFunc at spans, in the words of this proof: a permutation of what the row held, sorted. -/
namespace Go.Proofs.YthilkphnjffnhaaGreat
open Go.RowKit Go.Shelf

section
variable {α : Type} [Inhabited α] {enc : α → List Value} {k : Nat}
theorem holds_of_ows {w : World} {lo b n : Nat} {F : Nat → α} (hk : ∀ x, (enc x).length = k) (h : OwS enc k w lo b n F) : Sort.HoldsK enc k w b 0 ((List.range n).map F).toArray := by
  intro j hj
  rw [Sort.size_flatK] at hj
  have hs : ((List.range n).map F).toArray.size = n := by simp
  rw [hs] at hj
  have hkp : 0 < k := by
    rcases Nat.eq_zero_or_pos k with e | e
    · subst e; simp at hj
    · exact e
  have hi : j / k < n := Nat.div_lt_of_lt_mul (by rw [Nat.mul_comm]; exact hj)
  have hm : j % k < k := Nat.mod_lt _ hkp
  have ej : j / k * k + j % k = j := by rw [Nat.mul_comm]; exact Nat.div_add_mod j k
  rw [Nat.zero_add, Sort.get_flatK _ _ _ _ (by rw [hs]; exact hj)]
  have e1 : ((List.range n).map F).toArray[j / k]! = F (j / k) := by
    rw [getElem!_pos _ _ (by simpa using hi)]; simp
  rw [e1]
  refine ⟨?_, h.fz j⟩
  have := h.cell (j / k) hi (j % k) (enc (F (j / k)))[j % k]! (by rw [getElem!_pos _ _ (by rw [hk]; exact hm)]; exact List.getElem?_eq_getElem (by rw [hk]; exact hm))
  rw [ej] at this
  exact this
theorem ows_of_holds {w : World} {lo b n : Nat} {d : Array α} (hk : ∀ x, (enc x).length = k) (h : Sort.HoldsK enc k w b 0 d) (hd : d.size = n) (hlo : lo ≤ b) (hlt : b < w.heap.size) (hf : ∀ i, w.frozen? ⟨b, i, none⟩ = false) : OwS enc k w lo b n (fun i => d[i]!) := by
  refine ⟨hlo, hlt, fun i hi j u hu => ?_, hf⟩
  have hj : j < k := by have := (List.getElem?_eq_some_iff.1 hu).1; rwa [hk] at this
  have := (Sort.HoldsK.cell h (i := i) (by rw [hd]; exact hi) hj).1
  rw [Nat.zero_add] at this
  rw [this, getElem!_pos _ _ (by rw [hk]; exact hj)]
  rw [List.getElem?_eq_getElem (by rw [hk]; exact hj)] at hu
  exact hu
theorem sortWorld_frozen (w : World) (b n : Nat) (d : Array α) (os : Array Obj) (hb : b < w.heap.size) (q : Addr) (hq : q.block < w.heap.size) : (sortWorldK enc k w b 0 n d os).frozen? q = w.frozen? q := by
  unfold sortWorldK Sort.grow Sort.putRowK Sort.putRow Sort.mapBlock Sort.ahead World.frozen?
  simp only
  rw [Array.getElem?_append]
  simp only [Array.size_modify, hq, if_true]
  rw [Array.getElem?_modify]
  by_cases e : b = q.block
  · rw [if_pos e]
    cases h : w.heap[q.block]? with
    | none => simp
    | some o => cases o <;> simp [Sort.onCells]
  · rw [if_neg e]
theorem sortWorld_below {lo : Nat} (w : World) (b n : Nat) (d : Array α) (os : Array Obj) (hlo : lo ≤ b) (hb : b < w.heap.size) : Below lo w (sortWorldK enc k w b 0 n d os) := by
  refine ⟨rfl, rfl, rfl, ?_, fun j hj => ?_⟩
  · simp [sortWorldK, Sort.grow, Sort.putRowK, Sort.putRow, Sort.mapBlock, Sort.ahead]
  · unfold sortWorldK Sort.grow Sort.putRowK Sort.putRow Sort.mapBlock Sort.ahead
    simp only
    rw [Array.getElem?_append]
    have hj' : j < w.heap.size := by omega
    simp only [Array.size_modify, hj', if_true]
    rw [Array.getElem?_modify, if_neg (by omega)]
theorem perm_of_in {n : Nat} {d d' : Array α} (h : Sort.PermIn 0 n d d') (hd : d.size = n) : d'.size = n ∧ d'.toList.Perm d.toList := by
  obtain ⟨h1, _, h3⟩ := h
  refine ⟨by rw [h1, hd], ?_⟩
  have e1 : d'.extract 0 n = d' := by rw [← hd, ← h1]; simp
  have e2 : d.extract 0 n = d := by rw [← hd]; simp
  rwa [e1, e2] at h3
end

theorem sort154 {α : Type} [Inhabited α] (val : α → Sp) (cf : α → α → Int) (hO : Sort.SWO (ltOf cf)) (g : Nat) (cb : Array Value) (eg : ∀ args w, (callFunc g args).run Tryz.prog w = .ok (.enter g args) w)
    (lo b n cap : Nat) (F : Nat → α) (w : World) (h : OwS Sp.enc 2 w lo b n (fun i => val (F i))) (hn : n ≤ 1000000)
    (hcmp : ∀ x y W, Below lo w W → Calls Tryz.prog g (#[(val x).val, (val y).val] ++ cb) W fun e W' => e = .returned (.int .i64 (cf x y)) ∧ ∃ q os, W' = Sort.grow (W.drewN q) os) :
    Calls Tryz.prog 154 #[.slice (some ⟨b, 0, none⟩) n cap, .func (.func g) #[] cb] w fun e w' => e = .returned (.tuple #[]) ∧
      ∃ F' : Nat → α, OwS Sp.enc 2 w' lo b n (fun i => val (F' i)) ∧ ((List.range n).map F').Perm ((List.range n).map F) ∧ (∀ i j, i < j → j < n → ¬ cf (F' j) (F' i) < 0) ∧ Below lo w w' := by
  have hlen : ∀ x : α, (Sp.enc (val x)).length = 2 := fun _ => rfl
  have hO' : OwS (fun x : α => Sp.enc (val x)) 2 w lo b n F := ⟨h.lo, h.lt, h.cell, h.fz⟩
  have hd : ((List.range n).map F).toArray.size = n := by simp
  have key := AnyQ.slices_SortFunc (P := Tryz.prog) sortSp 2 Tryz.isAgg58 Tryz.sizeOf58 (fun x : α => Sp.enc (val x)) hlen (fun x v hv => by
      simp only [Sp.enc, List.mem_cons, List.not_mem_nil, or_false] at hv
      rcases hv with rfl | rfl <;> rfl) cf hO g cb b 0 cap ((List.range n).map F).toArray w eg
    (fun m os dk hs x y => hcmp x y _ (sortWorld_below (enc := fun x : α => Sp.enc (val x)) (k := 2) w b m dk os h.lo h.lt)) (holds_of_ows hlen hO') h.lt (by rw [hd]; omega)
  rw [hd] at key
  refine key.mono ?_
  rintro e w' ⟨rfl, d', m, os, hp, hs, rfl⟩
  obtain ⟨hd', hperm⟩ := perm_of_in hp hd
  have hh := holdsK_sortWorldK_c (fun x : α => Sp.enc (val x)) 2 w b 0 ((List.range n).map F).toArray d' m os (holds_of_ows hlen hO') h.lt (by rw [hd', hd])
  have hlt : b < (sortWorldK (fun x : α => Sp.enc (val x)) 2 w b 0 m d' os).heap.size := lt_sortWorldK _ _ _ _ _ _ _ _ h.lt
  have hw := ows_of_holds (lo := lo) hlen hh hd' h.lo hlt (fun i => by rw [sortWorld_frozen _ _ _ _ _ h.lt _ h.lt]; exact h.fz i)
  refine ⟨rfl, fun i => d'[i]!, ⟨hw.lo, hw.lt, hw.cell, hw.fz⟩, ?_, fun i j hij hj => ?_, sortWorld_below _ _ _ _ _ h.lo h.lt⟩
  · have e : (List.range n).map (fun i => d'[i]!) = d'.toList := by
      apply List.ext_getElem
      · simp [hd']
      · intro i h1 h2
        simp at h1 h2
        simp [getElem!_pos d' i h2]
    rw [e]
    simpa using hperm
  · have := hs i j (Nat.zero_le _) hij hj
    simpa [ltOf] using this

theorem of2_any (a b : Sp) (ha : validB a.a a.b = true) (hb : validB b.a b.b = true) (w : World) :
    Calls Tryz.prog 155 (#[a.val, b.val] ++ #[]) w fun e w' => e = .returned (.int .i64 (a.a - b.a)) ∧ ∃ q os, w' = Sort.grow (w.drewN q) os := by
  obtain ⟨a0, a1⟩ := a
  obtain ⟨b0, b1⟩ := b
  have h1 := validB_iff.1 ha
  have h2 := validB_iff.1 hb
  simp only at h1 h2
  have g1 : -4398046511104 ≤ a0 := by omega
  have g2 : a0 ≤ 4398046511104 := by omega
  have g3 : -4398046511104 ≤ b0 := by omega
  have g4 : b0 ≤ 4398046511104 := by omega
  clear h1 h2 ha hb
  show Calls Tryz.prog 155 #[.agg #[.int .i64 a0, .int .i64 a1], .agg #[.int .i64 b0, .int .i64 b1]] w _
  go_enter Tryz.func155, Tryz.ntmps155
  go_wp2
  go_ret
  refine ⟨rfl, 0, #[.cells #[.int .i64 a0, .int .i64 a1] 58, .cells #[.int .i64 b0, .int .i64 b1] 58], ?_⟩
  rw [World.drewN_zero, Sort.alloc_eq_grow, Sort.alloc_eq_grow, Sort.grow_grow]
  rfl
end Go.Proofs.YthilkphnjffnhaaGreat
