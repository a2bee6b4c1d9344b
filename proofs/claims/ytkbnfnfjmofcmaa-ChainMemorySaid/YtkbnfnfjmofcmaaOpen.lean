/- Arguments opened: what is read as data, told as plain lists. No program in sight. -/
import Derived.Test.YtkbnfnfjmofcmaaLib
import Derived.Lib.SmallJoins
import Derived.Deep.Slices
import Derived.Deep.Fields
import Derived.ChangeSame
import Derived.SizedLaws
namespace Go.Proofs.Ytkbnfnfjmofcmaa
set_option linter.unusedVariables false
set_option linter.unusedSimpArgs false
open Go.RowKit Go.ChangeShapes Go.WideShapes Go.Deep

/-- Values of type t, without any memory behind them, are the cells f a of a good a. -/
def Flat {α : Type} (P : Program) (t : TypeId) (f : α → List Value) (good : α → Prop) : Prop :=
  ∀ {H : Type} {enc : TypeId × Value → H} {w : World} {base : Nat} {spare : Nat → Bool} {held : Bool} {fuel : Nat} {cs : List Value} {x : DataW H × List MemPlace},
    DataW.trod enc P w base spare held fuel t cs = some x → ∃ a, cs = f a ∧ good a
def inI64 (n : Int) : Prop := -9223372036854775808 ≤ n ∧ n ≤ 9223372036854775807
def cellI (n : Int) : List Value := [.int .i64 n]
def cellB (b : Bool) : List Value := [.bool b]
def cellS (s : ByteArray) : List Value := [.string s]
theorem flat_int {P : Program} {t : TypeId} (ht : P.underlying t = some (.int .i64)) : Flat P t cellI inI64 := by
  intro H enc w base spare held fuel cs x h
  obtain ⟨n, rfl, _, hw⟩ := DataW.trod_int ht h
  refine ⟨n, rfl, ?_⟩
  simp [Lit.wf, IntKind.min, IntKind.max, IntKind.signed, IntKind.bits] at hw
  unfold inI64
  omega
theorem flat_bool {P : Program} {t : TypeId} (ht : P.underlying t = some .bool) : Flat P t cellB (fun _ => True) := by
  intro H enc w base spare held fuel cs x h
  obtain ⟨b, rfl, _⟩ := DataW.trod_bool ht h
  exact ⟨b, rfl, trivial⟩
theorem flat_string {P : Program} {t : TypeId} (ht : P.underlying t = some .string) : Flat P t cellS (fun _ => True) := by
  intro H enc w base spare held fuel cs x h
  cases fuel with
  | zero => simp [DataW.trod] at h
  | succ n =>
    unfold DataW.trod at h
    rw [ht] at h
    split at h <;> simp_all
    exact ⟨_, rfl⟩
/-- A field of a struct that is flat. -/
theorem flat_field {P : Program} {t : TypeId} {fs : Array Field} (ht : P.underlying t = some (.struct fs)) {H : Type} {enc : TypeId × Value → H} {w : World} {base : Nat} {spare : Nat → Bool} {held : Bool} {fuel : Nat} {cs : List Value} {x : DataW H × List MemPlace}
    (h : DataW.trod enc P w base spare held fuel t cs = some x) (i : Nat) (fd : Field) (hi : fs[i]? = some fd) {α : Type} {f : α → List Value} {good : α → Prop} (hf : Flat P fd.type f good) :
    ∃ a, (cs.drop fd.offset).take (P.cellsOf fd.type) = f a ∧ good a := by
  obtain ⟨xs, n, _, _, _, hlen, hg⟩ := DataW.trod_struct ht h
  have h1 := hg i fd hi
  have hil : i < xs.length := by
    rw [hlen]
    exact (Array.getElem?_eq_some_iff.1 hi).1
  rw [List.getElem?_eq_getElem hil] at h1
  exact hf h1
theorem flat_cells_length {P : Program} {t : TypeId} {fs : Array Field} (ht : P.underlying t = some (.struct fs)) {H : Type} {enc : TypeId × Value → H} {w : World} {base : Nat} {spare : Nat → Bool} {held : Bool} {fuel : Nat} {cs : List Value} {x : DataW H × List MemPlace}
    (h : DataW.trod enc P w base spare held fuel t cs = some x) : cs.length = P.cellsOf t := by
  obtain ⟨xs, n, _, _, hl, _⟩ := DataW.trod_struct ht h
  exact hl

/-- A slice that came in: its elements xs, in memory at its address. -/
def SliceRd {α : Type} (w : World) (A : Option Addr) (n : Nat) (f : α → List Value) (xs : List α) : Prop :=
  xs = [] ∨ ∃ b off, A = some ⟨b, off, none⟩ ∧ b < w.heap.size ∧ ∀ i x, xs[i]? = some x → ∀ j, j < n → w.cell? ⟨b, off + i * n + j, none⟩ = (f x)[j]?
theorem SliceRd.turn {α : Type} {S : Nat → Prop} {w w' : World} {A : Option Addr} {n : Nat} {f : α → List Value} {xs : List α} (h : SliceRd w A n f xs) (ht : Turn S w w') (hn : ∀ a, A = some a → ¬ S a.block) : SliceRd w' A n f xs := by
  rcases h with h | ⟨b, off, rfl, hb, hc⟩
  · exact .inl h
  · exact .inr ⟨b, off, rfl, Nat.lt_of_lt_of_le hb ht.size, fun i x hx j hj => (ht.cell hb (hn _ rfl) _).trans (hc i x hx j hj)⟩
theorem SliceRd.below {α : Type} {w w' : World} {A : Option Addr} {n : Nat} {f : α → List Value} {xs : List α} (h : SliceRd w A n f xs) (hb : Below w.heap.size w w') : SliceRd w' A n f xs :=
  h.turn (Turn.of_below hb fun _ => False) fun _ _ => id
/-- Carried on from the world in which the call began. -/
theorem SliceRd.later {α : Type} {w0 w w' : World} {A : Option Addr} {n : Nat} {f : α → List Value} {xs : List α} (h : SliceRd w A n f xs) (hb : Below w.heap.size w w') : SliceRd w' A n f xs := h.below hb
theorem SliceRd.at {α : Type} {w : World} {A : Option Addr} {n : Nat} {f : α → List Value} {xs : List α} (h : SliceRd w A n f xs) {i : Nat} {x : α} (hx : xs[i]? = some x) :
    ∃ b off, A = some ⟨b, off, none⟩ ∧ b < w.heap.size ∧ ∀ j, j < n → w.cell? ⟨b, off + i * n + j, none⟩ = (f x)[j]? := by
  rcases h with h | ⟨b, off, rfl, hb, hc⟩
  · subst h; simp at hx
  · exact ⟨b, off, rfl, hb, hc i x hx⟩
/-- A slice of flat elements, opened. -/
theorem open_flat {α : Type} {P : Program} {t e : TypeId} {f : α → List Value} {good : α → Prop} (ht : P.underlying t = some (.slice e)) (hf : Flat P e f good) (hn : ∀ a, (f a).length = P.cellsOf e) (hpos : 0 < P.cellsOf e)
    {H : Type} {enc : TypeId × Value → H} {w : World} {base : Nat} {spare : Nat → Bool} {held : Bool} {A : Option Addr} {len cap : Nat} {d : DataW H} {ps : List MemPlace} (h : DataW.Trod enc P w base spare held t (.slice A len cap) d ps) :
    len ≤ maxLen ∧ ∃ xs : List α, xs.length = len ∧ (∀ x ∈ xs, good x) ∧ SliceRd w A (P.cellsOf e) f xs ∧ (d = .nil ∧ len = 0 ∨ ∃ es sp, d = .slice es sp ∧ es.length = len) := by
  obtain ⟨fuel, h⟩ := h
  rcases open_slice ht h with ⟨hcs, hx⟩ | ⟨a, l, c, m, n, D, Pl, hcs, hb, hl, hm, hmm, hx, hi⟩
  · simp [Value.cells] at hcs
    obtain ⟨rfl, rfl, rfl⟩ := hcs
    simp only [Prod.mk.injEq] at hx
    exact ⟨Nat.zero_le _, [], rfl, by simp, .inl rfl, .inl ⟨hx.1, rfl⟩⟩
  · simp [Value.cells] at hcs
    obtain ⟨rfl, rfl, rfl⟩ := hcs
    have hml : len ≤ m := by rw [hmm]; split; exact hl; exact Nat.le_refl _
    have hex : ∀ i, i < len → ∃ x : α, good x ∧ ∀ j, j < P.cellsOf e → w.cell? ((a.add (i * P.cellsOf e)).add j) = (f x)[j]? := by
      intro i hil
      obtain ⟨cs', hc, ht'⟩ := hi i (by omega)
      obtain ⟨x, rfl, hg⟩ := hf ht'
      obtain ⟨_, hcl, hat⟩ := World.cells?_some hc
      exact ⟨x, hg, hat⟩
    have hlist : ∀ k, k ≤ len → ∃ xs : List α, xs.length = k ∧ (∀ x ∈ xs, good x) ∧ ∀ i x, xs[i]? = some x → ∀ j, j < P.cellsOf e → w.cell? ((a.add (i * P.cellsOf e)).add j) = (f x)[j]? := by
      intro k
      induction k with
      | zero => intro _; exact ⟨[], rfl, by simp, by simp⟩
      | succ k ih =>
        intro hk
        obtain ⟨xs, h1, h2, h3⟩ := ih (by omega)
        obtain ⟨x, hg, hx⟩ := hex k (by omega)
        refine ⟨xs ++ [x], by simp [h1], ?_, ?_⟩
        · intro y hy
          rcases List.mem_append.1 hy with hy | hy
          · exact h2 y hy
          · simp at hy; subst hy; exact hg
        · intro i y hy
          by_cases hlt : i < k
          · rw [List.getElem?_append_left (by omega)] at hy
            exact h3 i y hy
          · have hik : i < (xs ++ [x]).length := (List.getElem?_eq_some_iff.1 hy).1
            simp [h1] at hik
            obtain rfl : i = k := by omega
            rw [List.getElem?_append_right (by omega), h1, Nat.sub_self] at hy
            simp at hy
            subst hy
            exact hx
    obtain ⟨xs, h1, h2, h3⟩ := hlist len (Nat.le_refl _)
    simp only [Prod.mk.injEq] at hx
    refine ⟨Nat.le_trans hl hm, xs, h1, h2, ?_, .inr ⟨_, _, hx.1, by simp⟩⟩
    by_cases h0 : xs = []
    · exact .inl h0
    · right
      obtain ⟨x0, hx0⟩ : ∃ x0, xs[0]? = some x0 := ⟨_, List.getElem?_eq_getElem (List.length_pos_iff.2 h0)⟩
      have hc0 := h3 0 x0 hx0 0 hpos
      have hf0 : (f x0)[0]? = some ((f x0)[0]'(by rw [hn]; exact hpos)) := List.getElem?_eq_getElem _
      rw [hf0, Nat.zero_mul] at hc0
      have haa : (a.add 0).add 0 = a := by simp [Addr.add]
      rw [haa] at hc0
      obtain ⟨b, off, spot⟩ := a
      have hs : spot = none := by
        unfold World.cell? at hc0
        simp only [] at hc0
        split at hc0
        · cases spot with
          | none => rfl
          | some q => simp at hc0
        · simp at hc0
      subst hs
      refine ⟨b, off, rfl, World.block_lt_of_cell? w _ hc0, fun i x hx' j hj => ?_⟩
      have := h3 i x hx' j hj
      rw [← this]
      congr 1
      unfold Addr.add
      split <;> split <;> simp_all <;> omega
/-- How long such a slice can be. -/
theorem open_sized {P : Program} {H : Type} {ts : List TypeId} {ds : List (DataW H)} (hsz : (DataW.weightsEach P ts ds).all (· ≤ reachBytes) = true) {j : Nat} {t e : TypeId} {d : DataW H} {len : Nat} (ht : ts[j]? = some t) (hd : ds[j]? = some d) (hu : P.underlying t = some (.slice e))
    (h : d = .nil ∧ len = 0 ∨ ∃ es sp, d = .slice es sp ∧ es.length = len) {B : Nat} (hB : P.bytesOf e = B) : len * B ≤ 140737488351232 := by
  rcases h with ⟨_, rfl⟩ | ⟨es, sp, rfl, rfl⟩
  · simp
  · have z := sized_slice hsz ht hd hu
    rw [hB] at z
    exact Nat.le_trans (Nat.mul_le_mul_right _ (by omega)) z
/-- A flat struct by value, opened. -/
theorem open_flat_agg {α : Type} {P : Program} {t : TypeId} {fs : Array Field} {f : α → List Value} {good : α → Prop} (ht : P.underlying t = some (.struct fs)) (hf : Flat P t f good)
    {H : Type} {enc : TypeId × Value → H} {w : World} {r : Reach} {b0 base : Nat} {spare : Nat → Bool} {held : Bool} {v : Value} {d : DataW H} {ps : List MemPlace}
    (hv : Value.okWide P w r b0 t v) (h : DataW.Trod enc P w base spare held t v d ps) : ∃ a, v = .agg (f a).toArray ∧ good a := by
  obtain ⟨cs, rfl, hsz⟩ := okWide_struct ht hv
  obtain ⟨fuel, h⟩ := h
  obtain ⟨a, ha, hg⟩ := hf h
  refine ⟨a, ?_, hg⟩
  rw [← ha]
  simp [Value.cells]
end Go.Proofs.Ytkbnfnfjmofcmaa
