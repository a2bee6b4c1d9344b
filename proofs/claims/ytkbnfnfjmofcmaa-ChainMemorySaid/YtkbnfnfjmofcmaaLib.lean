/- A library of plain lemmas for the walks of this seat: blocks of the heap, what a call leaves as it was, rows of elements of several cells. No program in sight. -/
import Derived.WalkKit
import Derived.KernelRfl
import Derived.Deep.QuietTactic
import Derived.BigQuiet
import Derived.RegionTactic
import Derived.Lib.Hide
import Derived.Laws.StructEq
namespace Go.Proofs.Ytkbnfnfjmofcmaa
set_option linter.unusedVariables false
set_option linter.unusedSimpArgs false
open Go.RowKit

/-! ### 1. What a call leaves as it was -/
/-- Only the blocks of S, and new ones, have turned. -/
structure Turn (S : Nat → Prop) (w w' : World) : Prop where
  os : w'.os = w.os
  tape : w'.tape = w.tape
  output : w'.output = w.output
  size : w.heap.size ≤ w'.heap.size
  block : ∀ k, k < w.heap.size → ¬ S k → w'.heap[k]? = w.heap[k]?

theorem Turn.refl (S : Nat → Prop) (w : World) : Turn S w w := ⟨rfl, rfl, rfl, Nat.le_refl _, fun _ _ _ => rfl⟩
theorem Turn.trans {S : Nat → Prop} {a b c : World} (h : Turn S a b) (k : Turn S b c) : Turn S a c :=
  ⟨k.os.trans h.os, k.tape.trans h.tape, k.output.trans h.output, Nat.le_trans h.size k.size, fun i hi hs => (k.block i (Nat.lt_of_lt_of_le hi h.size) hs).trans (h.block i hi hs)⟩
theorem Turn.mono {S S' : Nat → Prop} {a b : World} (h : Turn S a b) (hs : ∀ i, i < a.heap.size → S i → S' i) : Turn S' a b :=
  ⟨h.os, h.tape, h.output, h.size, fun i hi hn => h.block i hi fun hS => hn (hs i hi hS)⟩
/-- What turned in the second step was new in the first, or of S. -/
theorem Turn.then {S S' : Nat → Prop} {a b c : World} (h : Turn S a b) (k : Turn S' b c) (hs : ∀ i, i < a.heap.size → S' i → S i) : Turn S a c :=
  ⟨k.os.trans h.os, k.tape.trans h.tape, k.output.trans h.output, Nat.le_trans h.size k.size, fun i hi hn => (k.block i (Nat.lt_of_lt_of_le hi h.size) fun hS => hn (hs i hi hS)).trans (h.block i hi hn)⟩
theorem Turn.of_below {w w' : World} (h : Below w.heap.size w w') (S : Nat → Prop) : Turn S w w' := ⟨h.os, h.tape, h.output, h.size, fun k hk _ => h.block k hk⟩
theorem Turn.below {S : Nat → Prop} {w w' : World} (h : Turn S w w') {B : Nat} (hB : B ≤ w.heap.size) (hs : ∀ i, i < B → ¬ S i) : Below B w w' := ⟨h.os, h.tape, h.output, h.size, fun k hk => h.block k (by omega) (hs k hk)⟩
theorem Turn.drew {S : Nat → Prop} {a w : World} (h : Turn S a w) : Turn S a w.drew := ⟨h.os, h.tape, h.output, h.size, h.block⟩
theorem Turn.drewN {S : Nat → Prop} {a w : World} (h : Turn S a w) (n : Nat) : Turn S a (w.drewN n) := ⟨h.os, h.tape, h.output, h.size, h.block⟩
theorem Turn.alloc {S : Nat → Prop} {a w : World} (h : Turn S a w) (o : Obj) : Turn S a (w.alloc o) :=
  h.trans (Turn.of_below ((Below.refl _ _).alloc (Nat.le_refl _) o) S)
theorem Turn.setCell {S : Nat → Prop} {a w : World} (h : Turn S a w) {p : Addr} (hp : S p.block ∨ a.heap.size ≤ p.block) (u : Value) : Turn S a (w.setCell p u) :=
  ⟨h.os, h.tape, h.output, by simpa [World.setCell] using h.size, fun k hk hn => by
    rw [Below.heap_setCell _ _ _ _ (fun e => by subst e; rcases hp with hp | hp; exact hn hp; omega)]
    exact h.block k hk hn⟩
theorem Turn.grown {S : Nat → Prop} {a w w' : World} {row : Option Nat} (h : Turn S a w) (hg : w.grownBy w' row) (hr : ∀ k, row = some k → S k ∨ a.heap.size ≤ k) : Turn S a w' :=
  ⟨hg.os.trans h.os, hg.tape.trans h.tape, hg.output.trans h.output, Nat.le_trans h.size hg.size, fun k hk hn =>
    (hg.block k (Nat.lt_of_lt_of_le hk h.size) (fun e => by rcases hr k e.symm with x | x; exact hn x; omega)).trans (h.block k hk hn)⟩
theorem Turn.cell {S : Nat → Prop} {w w' : World} (h : Turn S w w') {g : Nat} (hg : g < w.heap.size) (hn : ¬ S g) (j : Nat) : w'.cell? ⟨g, j, none⟩ = w.cell? ⟨g, j, none⟩ := World.cell?_of_block (w := w) (h.block g hg hn)
theorem Turn.frozen {S : Nat → Prop} {w w' : World} (h : Turn S w w') {g : Nat} (hg : g < w.heap.size) (hn : ¬ S g) (j : Nat) : w'.frozen? ⟨g, j, none⟩ = w.frozen? ⟨g, j, none⟩ := World.frozen?_of_block (w := w) (h.block g hg hn)
theorem below_self {w w' : World} (h : Turn (fun _ => False) w w') : Below w.heap.size w w' := h.below (Nat.le_refl _) (fun _ _ h => h)

/-! ### 2. Blocks -/
/-- Block g is a row of these cells, none of them frozen. -/
def RowAt (w : World) (g : Nat) (T : TypeId) (cs : List Value) : Prop := w.heap[g]? = some (.cells cs.toArray T (0, 0))
theorem RowAt.lt {w : World} {g : Nat} {T : TypeId} {cs : List Value} (h : RowAt w g T cs) : g < w.heap.size := (Array.getElem?_eq_some_iff.1 h).1
theorem RowAt.cell {w : World} {g : Nat} {T : TypeId} {cs : List Value} (h : RowAt w g T cs) (j : Nat) : w.cell? ⟨g, j, none⟩ = cs[j]? := by
  rw [cell_of_row w g j _ _ _ h]
  simp
theorem RowAt.frozen {w : World} {g : Nat} {T : TypeId} {cs : List Value} (h : RowAt w g T cs) (j : Nat) : w.frozen? ⟨g, j, none⟩ = false := frozen_of_row w g j _ T h
theorem RowAt.turn {S : Nat → Prop} {w w' : World} {g : Nat} {T : TypeId} {cs : List Value} (h : RowAt w g T cs) (ht : Turn S w w') (hn : ¬ S g) : RowAt w' g T cs := (ht.block g h.lt hn).trans h
theorem RowAt.below {w w' : World} {g : Nat} {T : TypeId} {cs : List Value} (h : RowAt w g T cs) (hb : Below w.heap.size w w') : RowAt w' g T cs := (hb.block g h.lt).trans h
theorem RowAt.drew {w : World} {g : Nat} {T : TypeId} {cs : List Value} (h : RowAt w g T cs) : RowAt w.drew g T cs := h
theorem RowAt.drewN {w : World} {g : Nat} {T : TypeId} {cs : List Value} (h : RowAt w g T cs) (n : Nat) : RowAt (w.drewN n) g T cs := h
theorem RowAt.alloc {w : World} {g : Nat} {T : TypeId} {cs : List Value} (h : RowAt w g T cs) (o : Obj) : RowAt (w.alloc o) g T cs := (Go.RowKit.Below.heap_alloc w o g h.lt).trans h
theorem RowAt.new (w : World) (T : TypeId) (cs : List Value) : RowAt (w.alloc (.cells cs.toArray T)) w.heap.size T cs := heap_alloc_new w _
theorem RowAt.new' (w : World) (n : Nat) (T : TypeId) (cs : List Value) (hn : n = w.heap.size) : RowAt (w.alloc (.cells cs.toArray T)) n T cs := by subst hn; exact RowAt.new w T cs
theorem RowAt.set {w : World} {g : Nat} {T : TypeId} {cs : List Value} (h : RowAt w g T cs) (j : Nat) (v : Value) : RowAt (w.setCell ⟨g, j, none⟩ v) g T (cs.set j v) := by
  unfold RowAt
  rw [heap_setCell_same w g j _ T v h]
  simp
theorem RowAt.far {w : World} {g : Nat} {T : TypeId} {cs : List Value} (h : RowAt w g T cs) {p : Addr} (hne : g ≠ p.block) (v : Value) : RowAt (w.setCell p v) g T cs := (heap_setCell_other w p g v hne).trans h
theorem RowAt.ne {w : World} {g g' : Nat} {T T' : TypeId} {cs cs' : List Value} (h : RowAt w g T cs) (h' : RowAt w g' T' cs') (ht : T ≠ T') : g ≠ g' := by
  rintro rfl
  unfold RowAt at h h'
  rw [h] at h'
  injection h' with h'
  injection h' with _ e
  exact ht e
theorem RowAt.congr {w : World} {g : Nat} {T : TypeId} {cs cs' : List Value} (h : RowAt w g T cs) (e : cs = cs') : RowAt w g T cs' := e ▸ h
theorem RowAt.own {w : World} {g : Nat} {T : TypeId} {cs : List Value} (h : RowAt w g T cs) {base : Nat} (hb : base ≤ g) {n size : Nat} (hn : cs.length = n * size) (hm : n ≤ maxLen) : w.ownsRow base T size (.slice (some ⟨g, 0, none⟩) n n) n cs :=
  ⟨hn, .inr ⟨g, n, cs.toArray, rfl, hb, h, Nat.le_refl _, hm, by simpa using hn, by simp [← hn]⟩⟩

/-- One cell after the other, from o on. -/
def wset (w : World) (g : Nat) : Nat → List Value → World
  | _, [] => w
  | o, v :: vs => wset (w.setCell ⟨g, o, none⟩ v) g (o + 1) vs
def setRun : List Value → Nat → List Value → List Value
  | cs, _, [] => cs
  | cs, o, v :: vs => setRun (cs.set o v) (o + 1) vs
theorem RowAt.wset {g : Nat} {T : TypeId} (vs : List Value) : ∀ {w : World} {cs : List Value} (o : Nat), RowAt w g T cs → RowAt (wset w g o vs) g T (setRun cs o vs) := by
  induction vs with
  | nil => intro w cs o h; exact h
  | cons v vs ih => intro w cs o h; exact ih (o + 1) (h.set o v)
theorem Turn.wset {S : Nat → Prop} {a : World} {g : Nat} (hp : S g ∨ a.heap.size ≤ g) (vs : List Value) : ∀ {w : World} (o : Nat), Turn S a w → Turn S a (wset w g o vs) := by
  induction vs with
  | nil => intro w o h; exact h
  | cons v vs ih => intro w o h; exact ih (o + 1) (h.setCell hp v)
theorem setRun_length (vs : List Value) : ∀ (cs : List Value) (o : Nat), (setRun cs o vs).length = cs.length := by
  induction vs with
  | nil => intro cs o; rfl
  | cons v vs ih => intro cs o; simp [setRun, ih]
theorem setRun_at (vs : List Value) : ∀ (cs : List Value) (o j : Nat), (setRun cs o vs)[j]? = if o ≤ j ∧ j < o + vs.length ∧ j < cs.length then vs[j - o]? else cs[j]? := by
  induction vs with
  | nil => intro cs o j; simp [setRun]; omega
  | cons v vs ih =>
    intro cs o j
    simp only [setRun]
    rw [ih]
    simp only [List.length_set, List.length_cons]
    by_cases h : o + 1 ≤ j ∧ j < o + 1 + vs.length ∧ j < cs.length
    · rw [if_pos h, if_pos (by omega)]
      obtain ⟨k, rfl⟩ : ∃ k, j = o + 1 + k := ⟨j - (o + 1), by omega⟩
      rw [show o + 1 + k - o = k + 1 from by omega, List.getElem?_cons_succ, show o + 1 + k - (o + 1) = k from by omega]
    · rw [if_neg h]
      by_cases e : j = o
      · subst e
        by_cases hl : j < cs.length
        · rw [if_pos (by omega)]
          simp [hl]
        · rw [if_neg (by omega)]
          rw [List.getElem?_eq_none (by simp; omega), List.getElem?_eq_none (by omega)]
      · rw [List.getElem?_set_ne (by omega)]
        by_cases hl : o ≤ j ∧ j < o + (vs.length + 1) ∧ j < cs.length
        · omega
        · rw [if_neg hl]

/-! ### 3. Rows of elements of n cells each -/
theorem flat_length {α : Type} {f : α → List Value} {n : Nat} (hn : ∀ x, (f x).length = n) (xs : List α) : (xs.flatMap f).length = xs.length * n := by
  induction xs with
  | nil => simp
  | cons x xs ih => simp [hn x, ih, Nat.add_mul, Nat.add_comm]
theorem flat_at {α : Type} {f : α → List Value} {n : Nat} (hn : ∀ x, (f x).length = n) (xs : List α) (i j : Nat) (hj : j < n) {x : α} (hx : xs[i]? = some x) : (xs.flatMap f)[i * n + j]? = (f x)[j]? := by
  induction xs generalizing i with
  | nil => simp at hx
  | cons y xs ih =>
    rw [List.flatMap_cons]
    cases i with
    | zero =>
      simp at hx
      subst hx
      rw [Nat.zero_mul, Nat.zero_add, List.getElem?_append_left (by rw [hn]; exact hj)]
    | succ i =>
      rw [List.getElem?_cons_succ] at hx
      rw [List.getElem?_append_right (by rw [hn, Nat.add_mul]; omega), hn, show (i + 1) * n + j - n = i * n + j from by rw [Nat.add_mul]; omega]
      exact ih i hx
theorem flat_set {α : Type} {f : α → List Value} {n : Nat} (hn : ∀ x, (f x).length = n) (xs : List α) (i : Nat) (x : α) (hi : i < xs.length) : setRun (xs.flatMap f) (i * n) (f x) = (xs.set i x).flatMap f := by
  by_cases h0 : n = 0
  · subst h0
    have e : ∀ l : List α, l.flatMap f = [] := fun l => List.length_eq_zero_iff.1 (by rw [flat_length hn, Nat.mul_zero])
    rw [e, e, List.length_eq_zero_iff.1 (hn x)]
    rfl
  apply List.ext_getElem?
  intro j
  rw [setRun_at, hn, flat_length hn]
  have hq : j / n * n + j % n = j := by rw [Nat.mul_comm]; exact Nat.div_add_mod j n
  have hm : j % n < n := Nat.mod_lt _ (by omega)
  by_cases hl : j < xs.length * n
  · have hjn : j / n < xs.length := Nat.div_lt_of_lt_mul (by rw [Nat.mul_comm]; exact hl)
    have hset : ((xs.set i x).flatMap f)[j]? = (f ((xs.set i x)[j / n]'(by simpa using hjn)))[j % n]? := by
      conv => lhs; rw [← hq]
      exact flat_at hn _ _ _ hm (List.getElem?_eq_getElem _)
    have hold : (xs.flatMap f)[j]? = (f (xs[j / n]))[j % n]? := by
      conv => lhs; rw [← hq]
      exact flat_at hn _ _ _ hm (List.getElem?_eq_getElem _)
    rw [hset, hold]
    by_cases e : i = j / n
    · subst e
      rw [if_pos (by omega)]
      simp only [List.getElem_set_self]
      rw [show j - j / n * n = j % n from by omega]
    · rw [List.getElem_set_ne (by omega)]
      rw [if_neg]
      rintro ⟨h1, h2, _⟩
      apply e
      have h3 : j < (i + 1) * n := by rw [Nat.add_mul]; omega
      have h4 := (Nat.div_lt_iff_lt_mul (by omega)).2 h3
      have h5 := (Nat.le_div_iff_mul_le (by omega)).2 h1
      omega
  · rw [if_neg (by omega), List.getElem?_eq_none (by rw [flat_length hn]; omega), List.getElem?_eq_none (by rw [flat_length hn]; simpa using Nat.le_of_not_lt hl)]

theorem ret_int {k : IntKind} {a b : Int} (h : a = b) : Ending.returned (.int k a) = .returned (.int k b) := by rw [h]
theorem ret_bool {a b : Bool} (h : a = b) : Ending.returned (.bool a) = .returned (.bool b) := by rw [h]
theorem wrap64_in {x : Int} (h : -9223372036854775808 ≤ x) (h' : x ≤ 9223372036854775807) : wrap64 x = x := by unfold wrap64; omega


/-! ### 4. Results that lie in memory -/
theorem load_row {P : Program} {w : World} {g : Nat} {T ty : TypeId} {cs : List Value} {d : TypeDesc} (hg : RowAt w g T cs) (hu : P.underlying ty = some d)
    (hd : (match d with | .struct _ | .array _ _ => true | _ => false) = true) (hi : (P.info? ty).map (·.size) = some cs.length) : (loadVar ty ⟨g, 0, none⟩).run P w = .ok (.agg cs.toArray) w :=
  run_loadVar_row w g T ty cs.toArray (0, 0) d hg hu hd (by simpa using hi)
/-- One result, a struct. -/
theorem results_c {P : Program} {fn : Func} {p : Tmp} {ty : TypeId} (h : fn.results = #[.cell p ty]) (tmps : Array Value) {w : World} {g : Nat} {T : TypeId} {cs : List Value} {d : TypeDesc}
    (hp : tmps.getD p undef = .pointer (some ⟨g, 0, none⟩)) (hg : RowAt w g T cs) (hu : P.underlying ty = some d) (hd : (match d with | .struct _ | .array _ _ => true | _ => false) = true)
    (hi : (P.info? ty).map (·.size) = some cs.length) : (results fn tmps).run P w = .ok (.agg cs.toArray) w := by
  have hp' : tmps[p]?.getD undef = .pointer (some ⟨g, 0, none⟩) := by simpa using hp
  simp [results, h, hp', asAddr, load_row hg hu hd hi]
/-- Two results, the first a struct. -/
theorem results_ct {P : Program} {fn : Func} {p u : Tmp} {ty : TypeId} (h : fn.results = #[.cell p ty, .tmp u]) (tmps : Array Value) {w : World} {g : Nat} {T : TypeId} {cs : List Value} {d : TypeDesc}
    (hp : tmps.getD p undef = .pointer (some ⟨g, 0, none⟩)) (hg : RowAt w g T cs) (hu : P.underlying ty = some d) (hd : (match d with | .struct _ | .array _ _ => true | _ => false) = true)
    (hi : (P.info? ty).map (·.size) = some cs.length) : (results fn tmps).run P w = .ok (.tuple #[.agg cs.toArray, tmps.getD u undef]) w := by
  have hp' : tmps[p]?.getD undef = .pointer (some ⟨g, 0, none⟩) := by simpa using hp
  simp [results, h, hp', asAddr, load_row hg hu hd hi]
/-- Three results, the middle one a struct. -/
theorem results_tct {P : Program} {fn : Func} {a p u : Tmp} {ty : TypeId} (h : fn.results = #[.tmp a, .cell p ty, .tmp u]) (tmps : Array Value) {w : World} {g : Nat} {T : TypeId} {cs : List Value} {d : TypeDesc}
    (hp : tmps.getD p undef = .pointer (some ⟨g, 0, none⟩)) (hg : RowAt w g T cs) (hu : P.underlying ty = some d) (hd : (match d with | .struct _ | .array _ _ => true | _ => false) = true)
    (hi : (P.info? ty).map (·.size) = some cs.length) : (results fn tmps).run P w = .ok (.tuple #[tmps.getD a undef, .agg cs.toArray, tmps.getD u undef]) w := by
  have hp' : tmps[p]?.getD undef = .pointer (some ⟨g, 0, none⟩) := by simpa using hp
  simp [results, h, hp', asAddr, load_row hg hu hd hi]

/-! ### 5. make, of whatever elements -/
theorem madeCells_flat {α : Type} {f : α → List Value} {s : α} {cs : Array Value} (hc : cs = (f s).toArray) (m : Nat) : madeCells cs (m * cs.size) = ((List.replicate m s).flatMap f).toArray := by
  subst hc
  apply Array.ext'
  rw [List.toList_toArray]
  apply List.ext_getElem?
  intro j
  have hlen : ∀ m', ((List.replicate m' s).flatMap f).length = m' * (f s).length := by
    intro m'
    induction m' with
    | zero => simp
    | succ m' ih => rw [List.replicate_succ, List.flatMap_cons, List.length_append, ih, Nat.add_mul]; omega
  by_cases hj : j < m * (f s).length
  · have hpos : 0 < (f s).length := by
      rcases Nat.eq_zero_or_pos (f s).length with h0 | h0
      · rw [h0, Nat.mul_zero] at hj; omega
      · exact h0
    have hm : j % (f s).length < (f s).length := Nat.mod_lt _ hpos
    have hright : ∀ m' j', j' < m' * (f s).length → ((List.replicate m' s).flatMap f)[j']? = (f s)[j' % (f s).length]? := by
      intro m'
      induction m' with
      | zero => intro j' h; omega
      | succ m' ih =>
        intro j' h
        rw [List.replicate_succ, List.flatMap_cons]
        by_cases hl : j' < (f s).length
        · rw [List.getElem?_append_left hl, Nat.mod_eq_of_lt hl]
        · rw [List.getElem?_append_right (by omega), ih (j' - (f s).length) (by rw [Nat.add_mul] at h; omega)]
          rw [show j' % (f s).length = (j' - (f s).length) % (f s).length from Nat.mod_eq_sub_mod (by omega)]
    rw [hright m j hj, Array.getElem?_toList, Array.getElem?_eq_getElem (by rw [size_madeCells]; simpa using hj)]
    simp [madeCells, getElem!_def, List.getElem?_eq_getElem hm]
  · rw [List.getElem?_eq_none (by rw [Array.length_toList, size_madeCells, List.size_toArray]; omega), List.getElem?_eq_none (by rw [hlen]; omega)]
/-- 'make([]T, n)': a new block of n zero elements. -/
theorem run_make_flat {P : Program} {α : Type} (f : α → List Value) (s : α) (t e : TypeId) (z : Value) (bytes : Nat) (ht : P.underlying t = some (.slice e))
    (hinfo : (P.info? e).map (fun i => (i.zero, i.size, i.bytes)) = some (some z, (f s).length, bytes)) (hz : z.cells = (f s).toArray)
    (kl kc : IntKind) (n : Nat) (hbytes : bytes * n ≤ 281474976710656) (h63 : n ≤ 9223372036854775807) (w : World) :
    (Instr.makeSlice t (.int kl (n : Int)) (.int kc (n : Int))).run P w = .ok (.slice (some ⟨w.heap.size, 0, none⟩) n n) (w.alloc (.cells ((List.replicate n s).flatMap f).toArray e)) := by
  obtain ⟨i, hi, hzz⟩ := Option.map_eq_some_iff.1 hinfo
  simp only [Prod.mk.injEq] at hzz
  obtain ⟨hz0, hs, hb⟩ := hzz
  have hb' : (i.bytes : Int) * (n : Int) ≤ 281474976710656 := by
    have h : ((i.bytes * n : Nat) : Int) ≤ 281474976710656 := by rw [hb]; omega
    rwa [Int.natCast_mul] at h
  have hr := run_make (P := P) w t e i z ht hi hz0 kl kc n n (by omega) (Int.le_refl _) hb' (by omega)
  simp only [Int.toNat_natCast, hs] at hr
  rw [show (f s).length = z.cells.size by rw [hz]; simp, madeCells_flat hz] at hr
  exact hr

/-! ### 6. Slices of the call's own, that grow -/
/-- The value v is a slice of the call's own (its block is numbered from base on) that holds xs. -/
def Own {α : Type} (w : World) (base : Nat) (e : TypeId) (size : Nat) (f : α → List Value) (v : Value) (xs : List α) : Prop := w.ownsRow base e size v xs.length (xs.flatMap f)
theorem Own.nil {α : Type} (w : World) (base : Nat) (e : TypeId) (size : Nat) (f : α → List Value) : Own w base e size f (.slice none 0 0) [] := World.ownsRow_nil w base e size
theorem Own.snoc {α : Type} {w : World} {base : Nat} {e : TypeId} {size : Nat} {f : α → List Value} {v : Value} {xs : List α} {x : α} (h : w.ownsRow base e size v (xs.length + 1) (xs.flatMap f ++ f x)) : Own w base e size f v (xs ++ [x]) := by
  unfold Own
  rw [List.length_append, List.flatMap_append]
  simpa using h
theorem Own.turn {α : Type} {S : Nat → Prop} {w w' : World} {base : Nat} {e : TypeId} {size : Nat} {f : α → List Value} {v : Value} {xs : List α} (h : Own w base e size f v xs) (ht : Turn S w w') (hn : ∀ k, v.ownBlock = some k → ¬ S k) : Own w' base e size f v xs := by
  obtain ⟨h1, h2⟩ := h
  refine ⟨h1, ?_⟩
  rcases h2 with h2 | ⟨g, cap, cur, rfl, hb, hh, r⟩
  · exact .inl h2
  · exact .inr ⟨g, cap, cur, rfl, hb, (ht.block g (Array.getElem?_eq_some_iff.1 hh).1 (hn g rfl)).trans hh, r⟩
theorem Own.below {α : Type} {w w' : World} {base : Nat} {e : TypeId} {size : Nat} {f : α → List Value} {v : Value} {xs : List α} (h : Own w base e size f v xs) (hb : Below w.heap.size w w') : Own w' base e size f v xs :=
  h.turn (Turn.of_below hb fun _ => False) fun _ _ => id
theorem Own.alloc {α : Type} {w : World} {base : Nat} {e : TypeId} {size : Nat} {f : α → List Value} {v : Value} {xs : List α} (h : Own w base e size f v xs) (o : Obj) : Own (w.alloc o) base e size f v xs := World.ownsRow.alloc h o
theorem Own.mono {α : Type} {w : World} {base base' : Nat} {e : TypeId} {size : Nat} {f : α → List Value} {v : Value} {xs : List α} (h : Own w base e size f v xs) (hb : base' ≤ base) : Own w base' e size f v xs := by
  obtain ⟨h1, h2⟩ := h
  refine ⟨h1, ?_⟩
  rcases h2 with h2 | ⟨g, cap, cur, rfl, hb', r⟩
  · exact .inl h2
  · exact .inr ⟨g, cap, cur, rfl, Nat.le_trans hb hb', r⟩
theorem Own.base {α : Type} {w : World} {base : Nat} {e : TypeId} {size : Nat} {f : α → List Value} {v : Value} {xs : List α} (h : Own w base e size f v xs) (k : Nat) (hk : v.ownBlock = some k) : base ≤ k ∧ k < w.heap.size := World.ownsRow.lt h k hk
/-- What such a slice is: nil, or the head of a block. -/
theorem Own.cases {α : Type} {w : World} {base : Nat} {e : TypeId} {size : Nat} {f : α → List Value} {v : Value} {xs : List α} (h : Own w base e size f v xs) :
    (v = .slice none 0 0 ∧ xs = []) ∨ ∃ g cap rest, v = .slice (some ⟨g, 0, none⟩) xs.length cap ∧ base ≤ g ∧ xs.length ≤ cap ∧ cap ≤ maxLen ∧ RowAt w g e (xs.flatMap f ++ rest) := by
  obtain ⟨h1, h2⟩ := h
  rcases h2 with ⟨rfl, h2⟩ | ⟨g, cap, cur, rfl, hb, hh, hl, hm, hc, ht⟩
  · exact .inl ⟨rfl, List.length_eq_zero_iff.1 h2⟩
  · refine .inr ⟨g, cap, cur.toList.drop (xs.length * size), rfl, hb, hl, hm, ?_⟩
    unfold RowAt
    rw [← ht, List.take_append_drop]
    simpa using hh

/-! ### 7. '==' of structs as one Bool -/
section
variable {P : Program} {d : Nat} {xs ys : Array Value} {f : Field} {fs : List Field} {a b : Value} {r s : Bool} {w : World}
theorem eqField_last (hn : (f.name == "_") = false) (ha : (part f.type xs f.offset).run P w = .ok a w) (hb : (part f.type ys f.offset).run P w = .ok b w) (he : (Op.equalIn d f.type a b).run P w = .ok r w) : (Op.eqFields d xs ys [f]).run P w = .ok r w := by
  have hn' : f.name ≠ "_" := by simpa using hn
  simp only [Op.eqFields, if_pos hn', Sem.run_bind, ha, hb, he, Result.andThen_ok]
  cases r <;> simp
theorem eqField_cons (hn : (f.name == "_") = false) (ha : (part f.type xs f.offset).run P w = .ok a w) (hb : (part f.type ys f.offset).run P w = .ok b w) (he : (Op.equalIn d f.type a b).run P w = .ok r w) (hr : (Op.eqFields d xs ys fs).run P w = .ok s w) : (Op.eqFields d xs ys (f :: fs)).run P w = .ok (r && s) w := by
  have hn' : f.name ≠ "_" := by simpa using hn
  rw [Op.eqFields]
  simp only [if_pos hn', Sem.run_bind, ha, hb, he, Result.andThen_ok]
  cases r
  · simp
  · simpa using hr
theorem eqStruct_of {t : TypeId} {fs : Array Field} (hu : P.underlying t = some (.struct fs)) (hp : P.stoodInHeld t = false) (h : (Op.eqFields d xs ys fs.toList).run P w = .ok r w) : (Op.equalIn (d + 1) t (.agg xs) (.agg ys)).run P w = .ok r w := by
  have hf : P.fieldsOf t = fs := by simp [Program.fieldsOf, hu]
  rw [run_equalIn_struct (P := P) w d t xs ys (by rw [hf]; exact hu) hp, hf]
  exact h
end
theorem bytes_eq {a b : ByteArray} (h : a.toList = b.toList) : a = b := by
  rw [ByteArray.toList_eq, ByteArray.toList_eq] at h
  obtain ⟨⟨x⟩⟩ := a
  obtain ⟨⟨y⟩⟩ := b
  simpa using h

end Go.Proofs.Ytkbnfnfjmofcmaa
