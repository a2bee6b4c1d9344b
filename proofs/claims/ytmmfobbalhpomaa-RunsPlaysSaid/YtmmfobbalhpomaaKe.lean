/- RunsKeeps: Sort, and the walk. -/
import Derived.Test.YtmmfobbalhpomaaApp
import Derived.Test.YtmmfobbalhpomaaAn
import Derived.Test.YtmmfobbalhpomaaOp
namespace Go.Proofs.Ytmmfobbalhpomaa
set_option linter.unusedVariables false
set_option linter.unusedSimpArgs false
open Go.RowKit

theorem row_one (x : Row) : ∀ u ∈ x.cells, u.oneCell' = true := by
  intro u hu
  simp [Row.cells] at hu
  rcases hu with rfl | rfl | rfl | rfl | rfl | rfl | rfl <;> rfl
theorem known_any (o : Int) (ho : o = 1 ∨ o = 2) (w : World) : Calls Try.prog 27 #[.int .i64 o] w fun e w' => e = .returned (.bool true) ∧ w = w' := by
  rcases ho with rfl | rfl
  all_goals
    go_enter Try.func27, Try.ntmps27
    go_wp2
    go_ret
    exact ⟨rfl, rfl⟩
theorem sort_any (o : Int) (ho : o = 1 ∨ o = 2) (A : Option Addr) (m cap : Nat) (rows : List Row) (hm : rows.length = m) (hml : m < 16777216) (w : World) (hR : RowsAt w A rows) :
    Calls Try.prog 22 #[.int .i64 o, .slice A m cap] w fun e w' => ∃ v' out, e = .returned (.tuple #[v', .int .i64 0]) ∧ IsSorted o rows out ∧ Own w' w.heap.size 30 7 Row.cells v' (out.map Nm.row) ∧ Below w.heap.size w w' := by
  go_enter Try.func22, Try.ntmps22
  go_wp2_with fail
  refine (known_any o ho _).mono ?_
  rintro e w1 ⟨rfl, rfl⟩
  go_wp2_with fail
  refine (sorted_any o ho A m cap rows hm hml _ hR).mono ?_
  rintro e w2 ⟨v', out, rfl, h1, h2, h3⟩
  have H1 := Lib.hid h1
  have H2 := Lib.hid h2
  have H3 := Lib.hid h3
  clear h1 h2 h3
  go_wp2
  go_ret2
  exact ⟨v', out, rfl, H1.out, H2.out, H3.out⟩
theorem cmpI_neg (a b : Int) : cmpI b a = - cmpI a b := by unfold cmpI; (repeat' split) <;> omega
theorem cmpRow_neg {o : Int} (ho : o = 1 ∨ o = 2) (a b : Row) : cmpRow o b a = - cmpRow o a b := by
  unfold cmpRow
  rcases ho with rfl | rfl
  · rw [if_pos rfl, if_pos rfl, orI3, orI3, cmpI_neg a.time, cmpI_neg a.kind, cmpI_neg a.index]
    (repeat' split) <;> omega
  · rw [if_neg (by decide), if_pos rfl, if_neg (by decide), if_pos rfl, orI3, orI3, cmpI_neg a.time, cmpI_neg a.seq, cmpI_neg a.index]
    (repeat' split) <;> omega
theorem sorted_cmp {o : Int} (ho : o = 1 ∨ o = 2) {rows : List Row} {out : List Nm} (h : IsSorted o rows out) {j : Nat} {y x : Row} (hy : (out.map Nm.row)[j]? = some y) (hx : (out.map Nm.row)[j + 1]? = some x) : cmpRow o y x ≤ 0 := by
  rw [List.getElem?_map, Option.map_eq_some_iff] at hy hx
  obtain ⟨a, ha, rfl⟩ := hy
  obtain ⟨b, hb, rfl⟩ := hx
  obtain ⟨hj, rfl⟩ := List.getElem?_eq_some_iff.1 ha
  obtain ⟨hj2, rfl⟩ := List.getElem?_eq_some_iff.1 hb
  have h1 := List.pairwise_iff_getElem.1 h.2 j (j + 1) hj hj2 (by omega)
  unfold ltN at h1
  have h2 := cmpRow_neg ho out[j].row out[j + 1].row
  split at h1
  · cases h1
  · omega
def cnt (l : List Row) (r : Row) : Nat := l.countP fun x => Row.eqb x r
theorem cnt_snoc (l : List Row) (x r : Row) : cnt (l ++ [x]) r = cnt l r + if Row.eqb x r = true then 1 else 0 := by
  unfold cnt
  rw [List.countP_append, List.countP_singleton]
theorem cnt_le (l : List Row) (r : Row) : cnt l r ≤ l.length := List.countP_le_length
theorem cnt_perm {o : Int} {rows : List Row} {out : List Nm} (h : IsSorted o rows out) (r : Row) : cnt (out.map Nm.row) r = cnt rows r := by
  have h1 := (h.1.map Nm.row).countP_eq (fun x => Row.eqb x r)
  rw [nums_rows] at h1
  exact h1
theorem rows_rd {w : World} {A : Option Addr} {rows : List Row} (h : SliceRd w A 7 Row.cells rows) : RowsAt w A rows := by
  intro i x hx
  obtain ⟨b, off, e, hb, hc⟩ := h.at hx
  exact ⟨b, off, e, hb, fun j hj => hc j hj⟩
end Go.Proofs.Ytmmfobbalhpomaa
