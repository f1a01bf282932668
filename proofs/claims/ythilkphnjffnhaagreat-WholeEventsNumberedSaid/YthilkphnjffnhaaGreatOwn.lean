/- permuted: a permutation of the numbers below n; what it is, that it is one, and that the Go code makes it. -/
import Derived.Test.YthilkphnjffnhaaGreatRep
import Derived.BigRegion
import Derived.BigQuiet
import Derived.Test.YthilkphnjffnhaaGreatExt
set_option linter.unusedSimpArgs false
set_option linter.unusedVariables false
namespace Go.Proofs.YthilkphnjffnhaaGreat
open Go.RowKit Go.Shelf

def swapF {α : Type} (p : Nat → α) (a b : Nat) : Nat → α := fun i => if i = a then p b else if i = b then p a else p i
def permTo (n first : Nat) (picks : List Nat) : Nat → Nat → Nat
  | 0 => id
  | k + 1 => if k < 40 then swapF (permTo n first picks k) (first + k % (n - first)) (first + picks.getD k 0 % (n - first)) else permTo n first picks k
def permF (n first : Nat) (picks : List Nat) : Nat → Nat := if n < first + 2 then id else permTo n first picks picks.length

structure IsPerm (n first : Nat) (p : Nat → Nat) : Prop where
  lt : ∀ i, i < n → p i < n
  inj : ∀ i j, i < n → j < n → p i = p j → i = j
  fix : ∀ i, i < first → p i = i
theorem IsPerm.id (n first : Nat) : IsPerm n first id := ⟨fun _ h => h, fun _ _ _ _ h => h, fun _ _ => rfl⟩
theorem IsPerm.swap {n first : Nat} {p : Nat → Nat} (h : IsPerm n first p) {a b : Nat} (ha : a < n) (hb : b < n) (ha' : first ≤ a) (hb' : first ≤ b) : IsPerm n first (swapF p a b) := by
  refine ⟨fun i hi => ?_, fun i j hi hj hij => ?_, fun i hi => ?_⟩
  · unfold swapF; split
    · exact h.lt b hb
    · split
      · exact h.lt a ha
      · exact h.lt i hi
  · unfold swapF at hij
    have e1 := fun e => h.inj i j hi hj e
    have e2 := fun e => h.inj b j hb hj e
    have e3 := fun e => h.inj i b hi hb e
    have e4 := fun e => h.inj a j ha hj e
    have e5 := fun e => h.inj i a hi ha e
    have e6 := fun e => h.inj b a hb ha e
    have e7 := fun e => h.inj a b ha hb e
    split at hij <;> split at hij <;> (try split at hij) <;> (try split at hij) <;> first | omega | (have := e1 hij; omega) | (have := e2 hij; omega) | (have := e3 hij; omega) | (have := e4 hij; omega) | (have := e5 hij; omega) | (have := e6 hij; omega) | (have := e7 hij; omega)
  · unfold swapF; rw [if_neg (by omega), if_neg (by omega)]; exact h.fix i hi
theorem permTo_is {n first : Nat} {picks : List Nat} (h : first + 2 ≤ n) : ∀ k, IsPerm n first (permTo n first picks k)
  | 0 => IsPerm.id n first
  | k + 1 => by
    have ih := permTo_is (picks := picks) h k
    simp only [permTo]
    split
    · have h1 : k % (n - first) < n - first := Nat.mod_lt _ (by omega)
      have h2 : picks.getD k 0 % (n - first) < n - first := Nat.mod_lt _ (by omega)
      exact ih.swap (by omega) (by omega) (by omega) (by omega)
    · exact ih
theorem permF_is (n first : Nat) (picks : List Nat) : IsPerm n first (permF n first picks) := by
  unfold permF; split
  · exact IsPerm.id _ _
  · exact permTo_is (by omega) _
theorem permF_nil (n first : Nat) : permF n first [] = id := by unfold permF; split <;> rfl

/-- a block of the call's own, as a function of the place -/
structure Arr (w : World) (lo g n : Nat) (f : Nat → Value) : Prop where
  lo : lo ≤ g
  lt : g < w.heap.size
  cell : ∀ i, i < n → w.cell? ⟨g, i, none⟩ = some (f i)
  fz : ∀ i, w.frozen? ⟨g, i, none⟩ = false
section
variable {w w' : World} {lo g n : Nat} {f f' : Nat → Value}
theorem Arr.keep (h : Arr w lo g n f) (hs : w.heap.size ≤ w'.heap.size) (hb : ∀ b, b < w.heap.size → w'.heap[b]? = w.heap[b]?) : Arr w' lo g n f :=
  ⟨h.lo, by have := h.lt; omega, fun i hi => (World.cell?_of_block (w := w) (hb _ h.lt)).trans (h.cell i hi), fun i => (World.frozen?_of_block (w := w) (hb _ h.lt)).trans (h.fz i)⟩
theorem Arr.below (h : Arr w lo g n f) (hb : Below w.heap.size w w') : Arr w' lo g n f := h.keep hb.size hb.block
theorem Arr.ext (h : Arr w lo g n f) (x : Xt) : Arr (w.ext x) lo g n f := h.below (below_ext w x)
theorem Arr.drew (h : Arr w lo g n f) : Arr w.drew lo g n f := ⟨h.lo, h.lt, h.cell, h.fz⟩
theorem Arr.alloc (h : Arr w lo g n f) (o : Obj) : Arr (w.alloc o) lo g n f := h.below ((Below.refl _ _).alloc (Nat.le_refl _) _)
theorem Arr.congr (h : Arr w lo g n f) (e : ∀ i, i < n → f i = f' i) : Arr w lo g n f' := ⟨h.lo, h.lt, fun i hi => by rw [h.cell i hi, e i hi], h.fz⟩
theorem frozen_setCell (w : World) (p q : Addr) (u : Value) : (w.setCell p u).frozen? q = w.frozen? q := by
  simp only [World.frozen?, World.setCell, Array.getElem?_modify]
  by_cases e : p.block = q.block
  · rw [if_pos e]
    cases h : w.heap[q.block]? with
    | none => simp
    | some o => cases o <;> simp
  · rw [if_neg e]
theorem Arr.set (h : Arr w lo g n f) {i : Nat} (hi : i < n) (u : Value) : Arr (w.setCell ⟨g, i, none⟩ u) lo g n (fun a => if a = i then u else f a) := by
  refine ⟨h.lo, by simp [World.setCell]; exact h.lt, fun a ha => ?_, fun a => by rw [frozen_setCell]; exact h.fz a⟩
  by_cases e : a = i
  · subst e; simp only [if_true]; exact World.cell?_setCell_same w _ _ (h.cell a ha)
  · simp only [if_neg e]; rw [World.cell?_setCell_other _ _ _ _ (fun e2 => e (congrArg Addr.off e2).symm)]; exact h.cell a ha
theorem Arr.far (h : Arr w lo g n f) {p : Addr} (hp : p.block ≠ g) (u : Value) : Arr (w.setCell p u) lo g n f :=
  ⟨h.lo, by simp [World.setCell]; exact h.lt, fun i hi => (World.cell?_of_block (w := w) (Below.heap_setCell w p u g (Ne.symm hp))).trans (h.cell i hi), fun i => by rw [frozen_setCell]; exact h.fz i⟩
end
/-- two places exchanged -/
theorem Arr.swap {w : World} {lo g n : Nat} {f : Nat → Value} (h : Arr w lo g n f) {a b : Nat} (ha : a < n) (hb : b < n) : Arr ((w.setCell ⟨g, a, none⟩ (f b)).setCell ⟨g, b, none⟩ (f a)) lo g n (swapF f a b) := by
  refine ((h.set ha (f b)).set hb (f a)).congr fun i hi => ?_
  unfold swapF
  by_cases e : i = b
  · rw [if_pos e]
    by_cases e' : i = a
    · rw [if_pos e', ← e, ← e']
    · rw [if_neg e', if_pos e]
  · rw [if_neg e]
    by_cases e' : i = a
    · rw [if_pos e', if_pos e']
    · rw [if_neg e', if_neg e', if_neg e]

theorem arr_new (w : World) (n : Nat) : Arr (w.alloc (.cells (List.replicate n (.int .i64 0)).toArray 3)) w.heap.size w.heap.size n (fun _ => .int .i64 0) := by
  refine ⟨Nat.le_refl _, by simp, fun i hi => ?_, fun i => ?_⟩
  · rw [World.cell?_alloc_new]; simp [hi]
  · unfold World.frozen?; rw [heap_alloc_new]; simp
def encB (x : Nat) : List Value := [.int .u8 (x : Int)]
def intF (p : Nat → Nat) : Nat → Value := fun i => .int .i64 (p i : Int)

set_option maxRecDepth 100000 in
set_option maxHeartbeats 4000000 in
theorem permuted_any (n first : Nat) (A : Option Addr) (c : Nat) (picks : List Nat) (w : World) (hs : RdS encB 1 w A picks) (hx : ∀ x ∈ picks, x < 256) (hn : n ≤ 1000) (hf : first ≤ n) :
    Calls Tryz.prog 16 #[.int .i64 n, .int .i64 first, .slice A picks.length c] w fun e w' => ∃ g, e = .returned (.slice (some ⟨g, 0, none⟩) n n) ∧ Arr w' w.heap.size g n (intF (permF n first picks)) ∧ Below w.heap.size w w' := by
  have hmk := make_ints n (by omega)
  have hn0 : (0 : Int) ≤ (n : Int) := by omega
  have hlen := hs.len
  go_enter Tryz.func16, Tryz.ntmps16
  go_wp2
  go_loopg [18] n (fun gg s18 wr => ∃ k : Nat, k ≤ n ∧ n - k ≤ gg ∧ s18 = .int .i64 k ∧ Aside (Below w.heap.size w wr) ∧ ∃ f, Aside (Arr wr w.heap.size w.heap.size n f) ∧ Aside (∀ i, i < k → f i = .int .i64 i))
  case atStart =>
    refine ⟨0, Nat.zero_le _, by omega, rfl, (Below.refl _ _).alloc (Nat.le_refl _) _, fun _ => .int .i64 0, ?_, fun i hi => absurd hi (by omega)⟩
    exact arr_new w n
  case round =>
    obtain ⟨k, hk, hg, rfl, HB, f, HA, HF⟩ := hrel
    clear hmk
    by_cases hlt : k < n
    · have hltz : (k : Int) < (n : Int) := by omega
      have c1 := HA.out.cell k hlt
      have f1 := HA.out.fz k
      have S1 := Lib.hid (HA.out.set hlt (.int .i64 k))
      have S2 := Lib.hid (HB.out.setCell (p := ⟨w.heap.size, k, none⟩) (Nat.le_refl _) (.int .i64 k))
      have S3 := Lib.hid (show ∀ i, i < k + 1 → (if i = k then (.int .i64 k : Value) else f i) = .int .i64 i from fun i hi => by
        by_cases e : i = k
        · rw [if_pos e, e]
        · rw [if_neg e]; exact HF.out i (by omega))
      clear HA HB HF
      go_wp2
      go_roundg (n - (k + 1))
      case measure => omega
      case rel => exact ⟨k + 1, by omega, by omega, by go_num, S2.out, _, S1.out, S3.out⟩
    · have hltz : ¬ (k : Int) < (n : Int) := by omega
      obtain rfl : n = k := by omega
      have HA' : Aside (Arr wr w.heap.size w.heap.size n (intF id)) := HA.out.congr fun i hi => HF.out i hi
      clear HA HF
      obtain ⟨w1, rfl⟩ : ∃ w1 : World, w1 = wr := ⟨_, rfl⟩
      by_cases hsmall : n < first + 2
      · have hsm : (n : Int) - (first : Int) < 2 := by omega
        have HP := Lib.hid (show permF n first picks = id by unfold permF; rw [if_pos hsmall])
        go_wp2
        go_ret
        exact ⟨_, rfl, by rw [HP.out]; exact HA'.out, HB.out⟩
      · have hsm : ¬ (n : Int) - (first : Int) < 2 := by omega
        have HP := Lib.hid (show permF n first picks = permTo n first picks picks.length by unfold permF; rw [if_neg hsmall])
        have HBx := HB
        clear HB
        go_wp2
        go_loopg [33] picks.length (fun gg s33 wr => ∃ k : Nat, k ≤ picks.length ∧ picks.length - k ≤ gg ∧ s33 = .int .i64 k ∧ Aside (Below w.heap.size w wr) ∧ Aside (Arr wr w.heap.size w.heap.size n (intF (permTo n first picks k))))
        case atStart => exact ⟨0, Nat.zero_le _, by omega, rfl, HBx.out, HA'.out⟩
        case round =>
          obtain ⟨k, hk, hg2, rfl, HB, HA⟩ := hrel
          clear HBx HA'
          by_cases hlt2 : k < picks.length
          · have hltz2 : (k : Int) < (picks.length : Int) := by omega
            obtain ⟨b, off, rfl, hb, hc⟩ := hs.at_ k hlt2
            have c0 : wr.cell? ⟨b, off + k, none⟩ = _ := (HB.out.cell (p := ⟨b, off + k, none⟩) hb).trans (by simpa using hc 0 _ rfl)
            clear hc hs
            by_cases h40 : k < 40
            · have h40' : (k : Int) < 40 := by omega
              have HT := Lib.hid (show permTo n first picks (k + 1) = swapF (permTo n first picks k) (first + k % (n - first)) (first + picks[k] % (n - first)) by
                simp only [permTo]; rw [if_pos h40, List.getD_eq_getElem?_getD, List.getElem?_eq_getElem hlt2]; rfl)
              have hxb := hx _ (List.getElem_mem hlt2)
              generalize picks[k] = x at c0 HT hxb
              generalize permTo n first picks k = p at HA HT
              obtain ⟨d, hd⟩ : ∃ d : Nat, d = n - first := ⟨_, rfl⟩
              have hd0 : 0 < d := by omega
              have ha1 : k % d < d := Nat.mod_lt _ hd0
              have hb1 : x % d < d := Nat.mod_lt _ hd0
              obtain ⟨a, ha⟩ : ∃ a : Nat, a = first + k % d := ⟨_, rfl⟩
              obtain ⟨q, hq⟩ : ∃ q : Nat, q = first + x % d := ⟨_, rfl⟩
              have han : a < n := by omega
              have hqn : q < n := by omega
              rw [← hd, ← ha, ← hq] at HT
              have E1 : IntKind.i64.wrap ((n : Int) - (first : Int)) = (d : Int) := by rw [IntKind.wrap_i64]; omega
              have E0 : ¬ d = 0 := by omega
              have E2 : (k : Int).tmod (d : Int) = ((k % d : Nat) : Int) := (Int.ofNat_tmod _ _).symm
              have E3 : IntKind.i64.wrap (x : Int) = (x : Int) := by rw [IntKind.wrap_i64]; omega
              have E4 : (x : Int).tmod (d : Int) = ((x % d : Nat) : Int) := (Int.ofNat_tmod _ _).symm
              have E5 : IntKind.i64.wrap ((first : Int) + ((k % d : Nat) : Int)) = (a : Int) := by rw [IntKind.wrap_i64]; omega
              have E6 : IntKind.i64.wrap ((first : Int) + ((x % d : Nat) : Int)) = (q : Int) := by rw [IntKind.wrap_i64]; omega
              generalize k % d = m1 at E2 E5
              generalize x % d = m2 at E4 E6
              clear ha hq hd hsm ha1 hb1
              go_wp2
              refine wp_region_ext (by kernel_rfl) (by kernel_rfl) ?_
              repeat (refine wpQuiet_step (fun K hK => ?_); go_simp; refine hK _ ?_; clear hK K)
              refine wpQuiet_nil ?_
              intro x0
              clear E0 E1 E2 E3 E4 E5 E6
              have HA2 := HA.out.ext x0
              have HB2 := HB.out.trans ((below_ext _ x0).mono HB.out.size)
              generalize wr.ext x0 = W at HA2 HB2
              have HA3 := Lib.hid (HA2.swap han hqn).drew
              have HB3 := Lib.hid ((HB2.setCell (p := ⟨w.heap.size, a, none⟩) (Nat.le_refl _) (intF p q)).setCell (p := ⟨w.heap.size, q, none⟩) (Nat.le_refl _) (intF p a)).drew
              have ca : W.cell? ⟨w.heap.size, a, none⟩ = some (.int .i64 (p a)) := HA2.cell a han
              have cq : W.cell? ⟨w.heap.size, q, none⟩ = some (.int .i64 (p q)) := HA2.cell q hqn
              have fa := HA2.fz a
              have fq := HA2.fz q
              clear HA2 HB2 HA HB c0
              have hsw : Aside (intF (swapF p a q) = swapF (intF p) a q) := by
                funext i; simp only [intF, swapF]; split
                · rfl
                · split <;> rfl
              by_cases haq : a = q
              · subst haq
                go_wp2
                go_region
                all_goals
                  go_wp2
                  go_roundg (picks.length - (k + 1))
                  case measure => omega
                  case rel => exact ⟨k + 1, by omega, by omega, by go_num, HB3.out, by rw [HT.out, hsw.out]; exact HA3.out⟩
              · go_wp2
                go_region
                all_goals
                  go_wp2
                  go_roundg (picks.length - (k + 1))
                  case measure => omega
                  case rel => exact ⟨k + 1, by omega, by omega, by go_num, HB3.out, by rw [HT.out, hsw.out]; exact HA3.out⟩
            · have h40' : ¬ (k : Int) < 40 := by omega
              have HT := Lib.hid (show permTo n first picks (k + 1) = permTo n first picks k by simp only [permTo]; rw [if_neg h40])
              go_wp2
              go_roundg (picks.length - (k + 1))
              case measure => omega
              case rel => exact ⟨k + 1, by omega, by omega, by go_num, HB.out, by rw [HT.out]; exact HA.out⟩
          · have hltz2 : ¬ (k : Int) < (picks.length : Int) := by omega
            have hkl : k = picks.length := by omega
            subst hkl
            go_wp2
            go_ret
            exact ⟨_, rfl, by rw [HP.out]; exact HA.out, HB.out⟩
end Go.Proofs.YthilkphnjffnhaaGreat

/- A row of structs of the call's own, as a function of the place: kept, written, exchanged, read as a list. -/
namespace Go.Proofs.YthilkphnjffnhaaGreat
open Go.RowKit Go.Shelf

/-- cells written one behind the other -/
def setCells (w : World) (g : Nat) : Nat → List Value → World
  | _, [] => w
  | off, v :: vs => setCells (w.setCell ⟨g, off, none⟩ v) g (off + 1) vs
theorem setCells_size (g : Nat) : ∀ (vs : List Value) (w : World) (off : Nat), (setCells w g off vs).heap.size = w.heap.size
  | [], _, _ => rfl
  | v :: vs, w, off => by rw [setCells, setCells_size g vs]; simp [World.setCell]
theorem setCells_frozen (g : Nat) (q : Addr) : ∀ (vs : List Value) (w : World) (off : Nat), (setCells w g off vs).frozen? q = w.frozen? q
  | [], _, _ => rfl
  | v :: vs, w, off => by rw [setCells, setCells_frozen g q vs, frozen_setCell]
theorem setCells_below {B : Nat} {w0 : World} (g : Nat) (hg : B ≤ g) : ∀ (vs : List Value) (w : World) (off : Nat), Below B w0 w → Below B w0 (setCells w g off vs)
  | [], _, _, h => h
  | v :: vs, w, off, h => setCells_below g hg vs _ _ (h.setCell (p := ⟨g, off, none⟩) hg v)
theorem setCells_far (g : Nat) (q : Addr) (hq : q.block ≠ g) : ∀ (vs : List Value) (w : World) (off : Nat), (setCells w g off vs).cell? q = w.cell? q
  | [], _, _ => rfl
  | v :: vs, w, off => by
    rw [setCells, setCells_far g q hq vs, World.cell?_setCell_other]
    intro e; exact hq (by rw [← e])
theorem setCells_out (g p : Nat) : ∀ (vs : List Value) (w : World) (off : Nat), (p < off ∨ off + vs.length ≤ p) → (setCells w g off vs).cell? ⟨g, p, none⟩ = w.cell? ⟨g, p, none⟩
  | [], _, _, _ => rfl
  | v :: vs, w, off, h => by
    simp only [List.length_cons] at h
    rw [setCells, setCells_out g p vs _ _ (by omega), World.cell?_setCell_other]
    intro e; have := congrArg Addr.off e; simp only at this; omega
theorem setCells_in (g : Nat) : ∀ (vs : List Value) (w : World) (off : Nat), (∀ j, j < vs.length → ∃ v, w.cell? ⟨g, off + j, none⟩ = some v) →
    ∀ j u, vs[j]? = some u → (setCells w g off vs).cell? ⟨g, off + j, none⟩ = some u
  | [], _, _, _, j, u, h => by simp at h
  | v :: vs, w, off, hc, 0, u, h => by
    simp at h; subst h
    obtain ⟨v0, hv0⟩ := hc 0 (by simp)
    rw [Nat.add_zero] at hv0 ⊢
    rw [setCells, setCells_out g off vs _ _ (by omega)]
    exact World.cell?_setCell_same w _ _ hv0
  | v :: vs, w, off, hc, j + 1, u, h => by
    have h' : vs[j]? = some u := by simpa using h
    rw [setCells, show off + (j + 1) = off + 1 + j by omega]
    refine setCells_in g vs _ _ (fun i hi => ?_) j u h'
    obtain ⟨v1, hv1⟩ := hc (i + 1) (by simp; omega)
    refine ⟨v1, ?_⟩
    rw [World.cell?_setCell_other]
    · rw [← hv1]; congr 2; omega
    · intro e; have := congrArg Addr.off e; simp only at this; omega

structure OwS {α : Type} (enc : α → List Value) (k : Nat) (w : World) (lo g n : Nat) (f : Nat → α) : Prop where
  lo : lo ≤ g
  lt : g < w.heap.size
  cell : ∀ i, i < n → ∀ j u, (enc (f i))[j]? = some u → w.cell? ⟨g, i * k + j, none⟩ = some u
  fz : ∀ i, w.frozen? ⟨g, i, none⟩ = false
section
variable {α : Type} {enc : α → List Value} {k : Nat} {w w' : World} {lo g n : Nat} {f f' : Nat → α}
theorem OwS.keep (h : OwS enc k w lo g n f) (hs : w.heap.size ≤ w'.heap.size) (hb : ∀ b, b < w.heap.size → w'.heap[b]? = w.heap[b]?) : OwS enc k w' lo g n f :=
  ⟨h.lo, by have := h.lt; omega, fun i hi j u hu => (World.cell?_of_block (w := w) (hb _ h.lt)).trans (h.cell i hi j u hu), fun i => (World.frozen?_of_block (w := w) (hb _ h.lt)).trans (h.fz i)⟩
theorem OwS.below (h : OwS enc k w lo g n f) (hb : Below w.heap.size w w') : OwS enc k w' lo g n f := h.keep hb.size hb.block
theorem OwS.ext (h : OwS enc k w lo g n f) (x : Xt) : OwS enc k (w.ext x) lo g n f := h.below (below_ext w x)
theorem OwS.drew (h : OwS enc k w lo g n f) : OwS enc k w.drew lo g n f := ⟨h.lo, h.lt, h.cell, h.fz⟩
theorem OwS.alloc (h : OwS enc k w lo g n f) (o : Obj) : OwS enc k (w.alloc o) lo g n f := h.below ((Below.refl _ _).alloc (Nat.le_refl _) _)
theorem OwS.congr (h : OwS enc k w lo g n f) (e : ∀ i, i < n → f i = f' i) : OwS enc k w lo g n f' := ⟨h.lo, h.lt, fun i hi j u hu => h.cell i hi j u (by rw [e i hi]; exact hu), h.fz⟩
theorem OwS.put (h : OwS enc k w lo g n f) (hk : ∀ x, (enc x).length = k) {i : Nat} (hi : i < n) (x : α) : OwS enc k (setCells w g (i * k) (enc x)) lo g n (fun a => if a = i then x else f a) := by
  refine ⟨h.lo, by rw [setCells_size]; exact h.lt, fun a ha j u hu => ?_, fun a => by rw [setCells_frozen]; exact h.fz a⟩
  have hj : j < k := by
    have := (List.getElem?_eq_some_iff.1 hu).1
    rw [hk] at this; exact this
  by_cases e : a = i
  · subst e
    simp only [if_true] at hu
    refine setCells_in g (enc x) w (a * k) (fun b hb => ?_) j u hu
    rw [hk] at hb
    have hb' : b < (enc (f a)).length := by rw [hk]; exact hb
    exact ⟨_, h.cell a ha b _ (List.getElem?_eq_getElem hb')⟩
  · simp only [if_neg e] at hu
    rw [setCells_out]
    · exact h.cell a ha j u hu
    · rw [hk]
      rcases Nat.lt_or_gt_of_ne e with h1 | h1
      · left
        have : (a + 1) * k ≤ i * k := Nat.mul_le_mul_right k h1
        rw [Nat.add_mul] at this; omega
      · right
        have : (i + 1) * k ≤ a * k := Nat.mul_le_mul_right k h1
        rw [Nat.add_mul] at this; omega
theorem OwS.swap (h : OwS enc k w lo g n f) (hk : ∀ x, (enc x).length = k) {a b : Nat} (ha : a < n) (hb : b < n) : OwS enc k (setCells (setCells w g (a * k) (enc (f b))) g (b * k) (enc (f a))) lo g n (swapF f a b) := by
  refine ((h.put hk ha (f b)).put hk hb (f a)).congr fun i hi => ?_
  unfold swapF
  by_cases e : i = b
  · rw [if_pos e]
    by_cases e' : i = a
    · rw [if_pos e', ← e, ← e']
    · rw [if_neg e', if_pos e]
  · rw [if_neg e]
    by_cases e' : i = a
    · rw [if_pos e', if_pos e']
    · rw [if_neg e', if_neg e', if_neg e]
theorem OwS.rd (h : OwS enc k w lo g n f) (hn : n ≤ 140737488355328) : RdS enc k w (some ⟨g, 0, none⟩) ((List.range n).map f) := by
  refine ⟨by simpa using hn, fun i x hx => ?_⟩
  rw [List.getElem?_map] at hx
  by_cases hi : i < n
  · rw [List.getElem?_range hi] at hx
    cases hx
    exact ⟨g, 0, rfl, h.lt, fun j u hu => by rw [Nat.zero_add]; exact h.cell i hi j u hu⟩
  · rw [List.getElem?_eq_none (by simpa using hi)] at hx
    cases hx
theorem flatMap_get {α : Type} {enc : α → List Value} {k : Nat} (hk : ∀ x, (enc x).length = k) : ∀ (xs : List α) (i : Nat) (x : α) (j : Nat) (u : Value), xs[i]? = some x → (enc x)[j]? = some u → (xs.flatMap enc)[i * k + j]? = some u
  | [], i, x, j, u, h, _ => by simp at h
  | y :: ys, 0, x, j, u, h, hu => by
    simp at h; subst h
    have hj := (List.getElem?_eq_some_iff.1 hu).1
    rw [List.flatMap_cons, Nat.zero_mul, Nat.zero_add, List.getElem?_append_left hj]; exact hu
  | y :: ys, i + 1, x, j, u, h, hu => by
    have h' : ys[i]? = some x := by simpa using h
    have ih := flatMap_get hk ys i x j u h' hu
    rw [List.flatMap_cons, List.getElem?_append_right (by rw [hk, Nat.add_mul]; omega), hk]
    rw [← ih]; congr 1; rw [Nat.add_mul]; omega
theorem flatMap_len {α : Type} {enc : α → List Value} {k : Nat} (hk : ∀ x, (enc x).length = k) (xs : List α) : (xs.flatMap enc).length = xs.length * k := by
  induction xs with
  | nil => simp
  | cons y ys ih => rw [List.flatMap_cons, List.length_append, hk, ih, List.length_cons, Nat.add_mul]; omega
/-- a row that append has made, read as a function -/
theorem OwS.of_own [Inhabited α] {base e g cap : Nat} {xs : List α} (hk : ∀ x, (enc x).length = k) (h : w.ownsRow base e k (.slice (some ⟨g, 0, none⟩) xs.length cap) xs.length (xs.flatMap enc)) : OwS enc k w base g xs.length (fun i => xs.getD i default) := by
  have hl := h.lt g rfl
  refine ⟨hl.1, hl.2, fun i hi j u hu => ?_, fun i => h.frozenAt i⟩
  have hx : xs[i]? = some (xs.getD i default) := by rw [List.getD_eq_getElem?_getD, List.getElem?_eq_getElem hi]; rfl
  have hj : j < k := by have := (List.getElem?_eq_some_iff.1 hu).1; rw [hk] at this; exact this
  have hlt : i * k + j < xs.length * k := by
    have : (i + 1) * k ≤ xs.length * k := Nat.mul_le_mul_right k hi
    rw [Nat.add_mul] at this; omega
  rw [h.cellAt _ hlt]
  exact flatMap_get hk xs i _ j u hx hu
end
end Go.Proofs.YthilkphnjffnhaaGreat
