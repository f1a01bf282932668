/- The shelf's contract of slices.SortFunc, laid at []int. -/
import Derived.Shelf.SlSortCmp.Whole1
import Derived.Test.YthilkphnjffnhaaGreatProg
import Derived.Test.YthilkphnjffnhaaGreatOwn
set_option linter.unusedSimpArgs false
set_option linter.unusedVariables false
namespace Go.Proofs.YthilkphnjffnhaaGreat
open Go.Shelf

def sortIntRen : Go.Shelf.Ren := ⟨fun | 6 => 149 | 15 => 159 | 14 => 195 | 28 => 206 | 29 => 207 | 20 => 258 | 21 => 259 | 22 => 260 | 23 => 261 | 24 => 262 | 25 => 263 | 26 => 264 | 27 => 265 | 46 => 299 | 47 => 275 | 48 => 276 | 49 => 300 | 50 => 301 | 57 => 325 | n => n, fun | 22 => 26 | 24 => 3 | 25 => 122 | 3 => 3 | 39 => 44 | 0 => 0 | 53 => 246 | 55 => 248 | 4 => 4 | 46 => 240 | 45 => 239 | 50 => 200 | 5 => 5 | 9 => 9 | 66 => 303 | 70 => 307 | 76 => 336 | 77 => 120 | n => n, fun | n => n⟩
theorem sortInt : Go.Proofs.SlLaysF.n6 Tryz.prog sortIntRen := {
  mixed := by kernel_rfl
  f6 := ⟨Tryz.f149.name, by decide, Tryz.func149.trans (congrArg some (by kernel_rfl))⟩
  f14 := ⟨Tryz.f195.name, by decide, Tryz.func195.trans (congrArg some (by kernel_rfl))⟩
  f15 := Tryz.func159.trans (congrArg some (by kernel_rfl))
  f20 := ⟨Tryz.f258.name, by decide, Tryz.func258.trans (congrArg some (by kernel_rfl))⟩
  f21 := ⟨Tryz.f259.name, by decide, Tryz.func259.trans (congrArg some (by kernel_rfl))⟩
  f22 := ⟨Tryz.f260.name, by decide, Tryz.func260.trans (congrArg some (by kernel_rfl))⟩
  f23 := ⟨Tryz.f261.name, by decide, Tryz.func261.trans (congrArg some (by kernel_rfl))⟩
  f24 := ⟨Tryz.f262.name, by decide, Tryz.func262.trans (congrArg some (by kernel_rfl))⟩
  f25 := ⟨Tryz.f263.name, by decide, Tryz.func263.trans (congrArg some (by kernel_rfl))⟩
  f26 := ⟨Tryz.f264.name, by decide, Tryz.func264.trans (congrArg some (by kernel_rfl))⟩
  f27 := ⟨Tryz.f265.name, by decide, Tryz.func265.trans (congrArg some (by kernel_rfl))⟩
  f28 := Tryz.func206.trans (congrArg some (by kernel_rfl))
  f29 := Tryz.func207.trans (congrArg some (by kernel_rfl))
  f46 := ⟨Tryz.f299.name, by decide, Tryz.func299.trans (congrArg some (by kernel_rfl))⟩
  f47 := Tryz.func275.trans (congrArg some (by kernel_rfl))
  f48 := Tryz.func276.trans (congrArg some (by kernel_rfl))
  f49 := ⟨Tryz.f300.name, by decide, Tryz.func300.trans (congrArg some (by kernel_rfl))⟩
  f50 := ⟨Tryz.f301.name, by decide, Tryz.func301.trans (congrArg some (by kernel_rfl))⟩
  f57 := ⟨Tryz.f325.name, by decide, Tryz.func325.trans (congrArg some (by kernel_rfl))⟩
  t0 := Tryz.underlying0
  a0 := Tryz.isAgg0
  z0 := Tryz.sizeOf0
  v0 := Tryz.zeroValue0
  t3 := Tryz.underlying3
  a3 := Tryz.isAgg3
  z3 := Tryz.sizeOf3
  v3 := Tryz.zeroValue3
  t4 := Tryz.underlying4
  a4 := Tryz.isAgg4
  z4 := Tryz.sizeOf4
  v4 := Tryz.zeroValue4
  t5 := Tryz.underlying5
  a5 := Tryz.isAgg5
  z5 := Tryz.sizeOf5
  v5 := Tryz.zeroValue5
  t9 := Tryz.underlying9
  a9 := Tryz.isAgg9
  z9 := Tryz.sizeOf9
  v9 := Tryz.zeroValue9
  t22 := Tryz.underlying26
  a22 := Tryz.isAgg26
  z22 := Tryz.sizeOf26
  v22 := Tryz.zeroValue26
  t25 := Tryz.underlying122
  a25 := Tryz.isAgg122
  z25 := Tryz.sizeOf122
  v25 := Tryz.zeroValue122
  t39 := Tryz.underlying44
  a39 := Tryz.isAgg44
  z39 := Tryz.sizeOf44
  v39 := Tryz.zeroValue44
  t45 := Tryz.underlying239
  a45 := Tryz.isAgg239
  z45 := Tryz.sizeOf239
  v45 := Tryz.zeroValue239
  t46 := Tryz.underlying240
  a46 := Tryz.isAgg240
  z46 := Tryz.sizeOf240
  v46 := Tryz.zeroValue240
  t50 := Tryz.underlying200
  a50 := Tryz.isAgg200
  z50 := Tryz.sizeOf200
  v50 := Tryz.zeroValue200
  t53 := Tryz.underlying246
  a53 := Tryz.isAgg246
  z53 := Tryz.sizeOf246
  v53 := Tryz.zeroValue246
  t55 := Tryz.underlying248
  a55 := Tryz.isAgg248
  z55 := Tryz.sizeOf248
  v55 := Tryz.zeroValue248
  t66 := Tryz.underlying303
  a66 := Tryz.isAgg303
  z66 := Tryz.sizeOf303
  v66 := Tryz.zeroValue303
  t70 := Tryz.underlying307
  a70 := Tryz.isAgg307
  z70 := Tryz.sizeOf307
  v70 := Tryz.zeroValue307
  t76 := Tryz.underlying336
  a76 := Tryz.isAgg336
  z76 := Tryz.sizeOf336
  v76 := Tryz.zeroValue336
  t77 := Tryz.underlying120
  a77 := Tryz.isAgg120
  z77 := Tryz.sizeOf120
  v77 := Tryz.zeroValue120
  a24 := Tryz.isAgg3
  z24 := Tryz.sizeOf3 }

end Go.Proofs.YthilkphnjffnhaaGreat

/- slices.SortFunc at indices, in the words of this proof: a permutation of what the row held, sorted. -/
namespace Go.Proofs.YthilkphnjffnhaaGreat
open Go.RowKit Go.Shelf

section
variable {α : Type} [Inhabited α] {enc : α → Value}
theorem holds1_of_ows {w : World} {lo b n : Nat} {F : Nat → α} (h : OwS (fun x => [enc x]) 1 w lo b n F) : Sort.Holds enc w b 0 ((List.range n).map F).toArray := by
  intro j hj
  have hj' : j < n := by simpa using hj
  rw [Nat.zero_add]
  have e1 : ((List.range n).map F).toArray[j]! = F j := by
    rw [getElem!_pos _ _ (by simpa using hj')]; simp
  rw [e1]
  refine ⟨?_, h.fz j⟩
  have := h.cell j hj' 0 (enc (F j)) rfl
  simpa using this
theorem ows1_of_holds {w : World} {lo b n : Nat} {d : Array α} (h : Sort.Holds enc w b 0 d) (hd : d.size = n) (hlo : lo ≤ b) (hlt : b < w.heap.size) (hf : ∀ i, w.frozen? ⟨b, i, none⟩ = false) : OwS (fun x => [enc x]) 1 w lo b n (fun i => d[i]!) := by
  refine ⟨hlo, hlt, fun i hi j u hu => ?_, hf⟩
  have hj : j < 1 := by have := (List.getElem?_eq_some_iff.1 hu).1; simpa using this
  obtain rfl : j = 0 := by omega
  have := (h i (by rw [hd]; exact hi)).1
  rw [Nat.zero_add] at this
  simp only [List.getElem?_cons_zero, Option.some.injEq] at hu
  subst hu
  simpa using this
theorem sortWorld1_frozen (w : World) (b n : Nat) (d : Array α) (os : Array Obj) (hb : b < w.heap.size) (q : Addr) (hq : q.block < w.heap.size) : (sortWorld enc w b 0 n d os).frozen? q = w.frozen? q := by
  unfold sortWorld Sort.grow Sort.putRow Sort.mapBlock Sort.ahead World.frozen?
  simp only
  rw [Array.getElem?_append]
  simp only [Array.size_modify, hq, if_true]
  rw [Array.getElem?_modify]
  by_cases e : b = q.block
  · rw [if_pos e]
    cases h : w.heap[q.block]? with
    | none => simp
    | some o => cases o <;> simp [Sort.onCells]
  · rw [if_neg e]
theorem sortWorld1_below {lo : Nat} (w : World) (b n : Nat) (d : Array α) (os : Array Obj) (hlo : lo ≤ b) (hb : b < w.heap.size) : Below lo w (sortWorld enc w b 0 n d os) := by
  refine ⟨rfl, rfl, rfl, ?_, fun j hj => ?_⟩
  · simp [sortWorld, Sort.grow, Sort.putRow, Sort.mapBlock, Sort.ahead]
  · unfold sortWorld Sort.grow Sort.putRow Sort.mapBlock Sort.ahead
    simp only
    rw [Array.getElem?_append]
    have hj' : j < w.heap.size := by omega
    simp only [Array.size_modify, hj', if_true]
    rw [Array.getElem?_modify, if_neg (by omega)]
theorem perm1_of_in {n : Nat} {d d' : Array α} (h : Sort.PermIn 0 n d d') (hd : d.size = n) : d'.size = n ∧ d'.toList.Perm d.toList := by
  obtain ⟨h1, _, h3⟩ := h
  refine ⟨by rw [h1, hd], ?_⟩
  have e1 : d'.extract 0 n = d' := by rw [← hd, ← h1]; simp
  have e2 : d.extract 0 n = d := by rw [← hd]; simp
  rwa [e1, e2] at h3
end

theorem sort149 {α : Type} [Inhabited α] (val : α → Int) (cf : α → α → Int) (hO : Sort.SWO (ltOf cf)) (g : Nat) (cb : Array Value) (eg : ∀ args w, (callFunc g args).run Tryz.prog w = .ok (.enter g args) w)
    (lo b n cap : Nat) (F : Nat → α) (w : World) (h : OwS encI 1 w lo b n (fun i => val (F i))) (hn : n ≤ 1000000)
    (hcmp : ∀ x y W, Below lo w W → Calls Tryz.prog g (#[.int .i64 (val x), .int .i64 (val y)] ++ cb) W fun e W' => e = .returned (.int .i64 (cf x y)) ∧ ∃ q os, W' = Sort.grow (W.drewN q) os) :
    Calls Tryz.prog 149 #[.slice (some ⟨b, 0, none⟩) n cap, .func (.func g) #[] cb] w fun e w' => e = .returned (.tuple #[]) ∧
      ∃ F' : Nat → α, OwS encI 1 w' lo b n (fun i => val (F' i)) ∧ ((List.range n).map F').Perm ((List.range n).map F) ∧ (∀ i j, i < j → j < n → ¬ cf (F' j) (F' i) < 0) ∧ Below lo w w' := by
  have hO' : OwS (fun x : α => [Value.int .i64 (val x)]) 1 w lo b n F := ⟨h.lo, h.lt, h.cell, h.fz⟩
  have hd : ((List.range n).map F).toArray.size = n := by simp
  have key := Any.slices_SortFunc (P := Tryz.prog) sortInt (fun x : α => Value.int .i64 (val x)) (fun _ => rfl) cf hO g cb b 0 cap ((List.range n).map F).toArray w eg
    (fun m os dk hs x y => hcmp x y _ (sortWorld1_below (enc := fun x : α => Value.int .i64 (val x)) w b m dk os h.lo h.lt)) (holds1_of_ows hO') h.lt (by rw [hd]; omega)
  rw [hd] at key
  refine key.mono ?_
  rintro e w' ⟨rfl, d', m, os, hp, hs, rfl⟩
  obtain ⟨hd', hperm⟩ := perm1_of_in hp hd
  have hh := holds_sortWorld (fun x : α => Value.int .i64 (val x)) w b 0 m ((List.range n).map F).toArray d' os h.lt (holds1_of_ows hO') (by rw [hd', hd])
  have hlt : b < (sortWorld (fun x : α => Value.int .i64 (val x)) w b 0 m d' os).heap.size := lt_sortWorld _ _ _ _ _ _ _ h.lt
  have hw := ows1_of_holds (lo := lo) hh hd' h.lo hlt (fun i => by rw [sortWorld1_frozen _ _ _ _ _ h.lt _ h.lt]; exact h.fz i)
  refine ⟨rfl, fun i => d'[i]!, ⟨hw.lo, hw.lt, hw.cell, hw.fz⟩, ?_, fun i j hij hj => ?_, sortWorld1_below _ _ _ _ _ h.lo h.lt⟩
  · have e : (List.range n).map (fun i => d'[i]!) = d'.toList := by
      apply List.ext_getElem
      · simp [hd']
      · intro i h1 h2
        simp at h1 h2
        simp [getElem!_pos d' i h2]
    rw [e]
    simpa using hperm
  · have := hs i j (Nat.zero_le _) hij hj
    simpa [ltOf] using this
end Go.Proofs.YthilkphnjffnhaaGreat
