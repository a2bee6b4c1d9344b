/- A slice of slices of rows that came in, opened. -/
import Derived.Test.YtgcfpepaapdjoaaRows
import Derived.Test.YtgcfpepaapdjoaaMB
import Derived.Test.YtgcfpepaapdjoaaO
import Derived.Test.YtgcfpepaapdjoaaOp2
namespace Go.Proofs.Ytgcfpepaapdjoaa
set_option linter.unusedVariables false
set_option linter.unusedSimpArgs false
open Go.RowKit Go.ChangeShapes Go.WideShapes Go.Deep

theorem cellsOf50 : Try.prog.cellsOf 50 = 1 := by kernel_rfl
/-- The data of a list of rows. -/
def listOf {H : Type} (l : LL) (x : DataW H) : Prop := x = .nil ∧ l.rows = [] ∨ ∃ es sp, x = .slice es sp ∧ es.length = l.rows.length
theorem open_lists {H : Type} {enc : TypeId × Value → H} {w : World} {base : Nat} {spare : Nat → Bool} {held : Bool} {A : Option Addr} {len cap : Nat} {d : DataW H} {ps : List MemPlace} (h : DataW.Trod enc Try.prog w base spare held 48 (.slice A len cap) d ps) :
    ∃ ls : List LL, ls.length = len ∧ ListsAt w A ls ∧ (∀ l ∈ ls, l.adr = none → l.cap = 0) ∧ (d = .nil ∧ ls = [] ∨ ∃ es sp, d = .slice es sp ∧ es.length = len ∧ ∀ (i : Nat) (l : LL), ls[i]? = some l → ∃ x, es[i]? = some x ∧ listOf l x) := by
  obtain ⟨fuel, h⟩ := h
  rcases open_slice1 Try.underlying48 cellsOf50 h with ⟨hcs, hx⟩ | ⟨a, l, c, m, n, V, D, Pl, hcs, hb, hl, hm, hmm, hx, hi⟩
  · simp [Value.cells] at hcs
    obtain ⟨rfl, rfl, rfl⟩ := hcs
    simp only [Prod.mk.injEq] at hx
    exact ⟨[], rfl, ⟨.inl rfl, (fun l hl => by cases hl)⟩, (fun l hl => by cases hl), .inl ⟨hx.1, rfl⟩⟩
  · simp [Value.cells] at hcs
    obtain ⟨rfl, rfl, rfl⟩ := hcs
    have hml : len ≤ m := by rw [hmm]; split; exact hl; exact Nat.le_refl _
    have hex : ∀ i, i < len → ∃ x : LL, w.cell? (a.add i) = some x.val ∧ SliceRd w x.adr 7 Row.cells x.rows ∧ (x.adr = none → x.cap = 0) ∧ listOf x (D i) := by
      intro i hil
      obtain ⟨hc, ht⟩ := hi i (by omega)
      have hs : ∃ A1 n1 c1, V i = .slice A1 n1 c1 ∧ (A1 = none → c1 = 0) := by
        rcases open_slice Try.underlying50 ht with ⟨e, -⟩ | ⟨a1, l1, c1, m1, n1, D1, P1, e, -⟩
        · simp at e; exact ⟨none, 0, 0, e, fun _ => rfl⟩
        · simp at e; exact ⟨some a1, l1, c1, e, fun h => by cases h⟩
      obtain ⟨A1, n1, c1, hv, hz⟩ := hs
      rw [hv] at ht hc
      obtain ⟨-, rows, h1, -, h3, h4⟩ := open_flat (P := Try.prog) (t := 50) (e := 29) Try.underlying50 flat_row (fun a => by rw [cellsOf29]; rfl) (by rw [cellsOf29]; omega) (show DataW.Trod enc Try.prog w base spare held 50 (.slice A1 n1 c1) (D i) (Pl i) from ⟨n, ht⟩)
      rw [cellsOf29] at h3
      refine ⟨⟨A1, c1, rows⟩, ?_, h3, hz, ?_⟩
      · unfold LL.val
        rw [h1]
        exact hc
      · rcases h4 with ⟨e1, e2⟩ | ⟨es, sp, e1, e2⟩
        · exact .inl ⟨e1, List.length_eq_zero_iff.1 (h1.trans e2)⟩
        · exact .inr ⟨es, sp, e1, by rw [e2]; exact h1.symm⟩
    have hlist : ∀ k, k ≤ len → ∃ ls : List LL, ls.length = k ∧ ∀ i x, ls[i]? = some x → w.cell? (a.add i) = some x.val ∧ SliceRd w x.adr 7 Row.cells x.rows ∧ (x.adr = none → x.cap = 0) ∧ listOf x (D i) := by
      intro k
      induction k with
      | zero => intro _; exact ⟨[], rfl, by simp⟩
      | succ k ih =>
        intro hk
        obtain ⟨ls, h1, h3⟩ := ih (by omega)
        obtain ⟨x, hx⟩ := hex k (by omega)
        refine ⟨ls ++ [x], by simp [h1], fun i y hy => ?_⟩
        by_cases hlt : i < k
        · rw [List.getElem?_append_left (by omega)] at hy
          exact h3 i y hy
        · have hik : i < (ls ++ [x]).length := (List.getElem?_eq_some_iff.1 hy).1
          simp [h1] at hik
          obtain rfl : i = k := by omega
          rw [List.getElem?_append_right (by omega), h1, Nat.sub_self] at hy
          simp at hy
          subst hy
          exact hx
    obtain ⟨ls, h1, h3⟩ := hlist len (Nat.le_refl _)
    have hmem : ∀ l ∈ ls, ∃ i, ls[i]? = some l := fun l hl => List.mem_iff_getElem?.1 hl
    simp only [Prod.mk.injEq] at hx
    refine ⟨ls, h1, ⟨?_, fun l hl => ?_⟩, fun l hl => ?_, .inr ⟨_, _, hx.1, by simp, fun i l hil => ?_⟩⟩
    · by_cases h0 : ls = []
      · exact .inl h0
      · right
        obtain ⟨x0, hx0⟩ : ∃ x0, ls[0]? = some x0 := ⟨_, List.getElem?_eq_getElem (List.length_pos_iff.2 h0)⟩
        have hc0 := (h3 0 x0 hx0).1
        have haa : a.add 0 = a := by simp [Addr.add]
        rw [haa] at hc0
        obtain ⟨b, off, spot⟩ := a
        have hs : spot = none := by
          unfold World.cell? at hc0
          simp only [] at hc0
          split at hc0
          · cases spot with
            | none => rfl
            | some q => simp at hc0
          · simp at hc0
        subst hs
        refine ⟨b, off, rfl, World.block_lt_of_cell? w _ hc0, fun i x hx' j hj => ?_⟩
        have := (h3 i x hx').1
        obtain rfl : j = 0 := by omega
        rw [show (LL.cells x)[0]? = some x.val from rfl, ← this]
        congr 1
        unfold Addr.add
        split <;> simp_all <;> omega
    · obtain ⟨i, hil⟩ := hmem l hl
      exact (h3 i l hil).2.1
    · obtain ⟨i, hil⟩ := hmem l hl
      exact (h3 i l hil).2.2.1
    · have hlt : i < len := by rw [← h1]; exact (List.getElem?_eq_some_iff.1 hil).1
      exact ⟨D i, by simp [hlt], (h3 i l hil).2.2.2⟩
/-! ### How many rows there are -/
theorem bulk_one {H : Type} (d : DataW H) : 1 ≤ Rows.uptoBulk d := by
  cases d with
  | lit l => cases l <;> simp [Rows.uptoBulk]
  | nil => simp [Rows.uptoBulk]
  | ptr d => simp [Rows.uptoBulk]
  | slice a b => simp [Rows.uptoBulk]
  | agg a => simp [Rows.uptoBulk]
  | iface t d => simp [Rows.uptoBulk]
  | map a => simp [Rows.uptoBulk]
  | held h => simp [Rows.uptoBulk]
theorem bulk_len {H : Type} (l : List (DataW H)) : l.length ≤ Rows.uptoBulkAll l := by
  induction l with
  | nil => simp [Rows.uptoBulkAll]
  | cons x r ih => have := bulk_one x; simp only [Rows.uptoBulkAll, List.length_cons]; omega
theorem bulk_list {H : Type} {l : LL} {x : DataW H} (h : listOf l x) : l.rows.length + 1 ≤ Rows.uptoBulk x := by
  rcases h with ⟨rfl, h⟩ | ⟨es, sp, rfl, h⟩
  · rw [h]; exact bulk_one _
  · have := bulk_len es
    simp only [Rows.uptoBulk]
    omega
theorem bulk_lists {H : Type} : ∀ (ls : List LL) (es : List (DataW H)), es.length = ls.length → (∀ (i : Nat) (l : LL), ls[i]? = some l → ∃ x, es[i]? = some x ∧ listOf l x) → (ls.map LL.rows).flatten.length + ls.length ≤ Rows.uptoBulkAll es := by
  intro ls
  induction ls with
  | nil => intro es h _; simp
  | cons l ls ih =>
    intro es h hr
    cases es with
    | nil => simp at h
    | cons e es =>
      have h1 := ih es (by simpa using h) fun i x hx => by simpa using hr (i + 1) x (by simpa using hx)
      obtain ⟨x, hx, hl⟩ := hr 0 l rfl
      simp at hx
      subst hx
      have h2 := bulk_list hl
      simp only [List.map_cons, List.flatten_cons, List.length_append, List.length_cons, Rows.uptoBulkAll]
      omega
theorem lists_le {H : Type} {ls : List LL} {len : Nat} {d : DataW H} (hl : ls.length = len) (h : d = .nil ∧ ls = [] ∨ ∃ es sp, d = .slice es sp ∧ es.length = len ∧ ∀ (i : Nat) (l : LL), ls[i]? = some l → ∃ x, es[i]? = some x ∧ listOf l x) : (ls.map LL.rows).flatten.length + len ≤ Rows.uptoBulk d := by
  rcases h with ⟨rfl, rfl⟩ | ⟨es, sp, rfl, h1, h2⟩
  · simp at hl; subst hl; simp
  · have := bulk_lists ls es (by omega) h2
    simp only [Rows.uptoBulk]
    omega
end Go.Proofs.Ytgcfpepaapdjoaa
