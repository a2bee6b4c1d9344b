/- The laws' arguments, opened. -/
import Derived.Test.YtgcfpepaapdjoaaOpen
import Derived.Test.YtgcfpepaapdjoaaR
namespace Go.Proofs.Ytgcfpepaapdjoaa
set_option linter.unusedVariables false
set_option linter.unusedSimpArgs false
open Go.RowKit Go.ChangeShapes Go.WideShapes Go.Deep

/-- One step of a script. -/
structure Op where
  kind : Int
  at_ : Int
  row : Row
def Op.cells (o : Op) : List Value := .int .i64 o.kind :: .int .i64 o.at_ :: o.row.cells
theorem cellsOf3 : Try.prog.cellsOf 3 = 1 := by kernel_rfl
theorem cellsOf9 : Try.prog.cellsOf 9 = 1 := by kernel_rfl
theorem cellsOf29 : Try.prog.cellsOf 29 = 7 := by kernel_rfl
def Row.Fits (a : Row) : Prop := inI64 a.kind ∧ inI64 a.time ∧ inI64 a.seq ∧ inI64 a.index ∧ inI64 a.frm ∧ inI64 a.to
theorem flat_row : Flat Try.prog 29 Row.cells Row.Fits := by
  intro H enc w base spare held fuel cs x h
  have hl := flat_cells_length Try.underlying29 h
  rw [cellsOf29] at hl
  obtain ⟨a0, e0, g0⟩ := flat_field Try.underlying29 h 0 _ rfl (flat_int Try.underlying3)
  obtain ⟨a1, e1, g1⟩ := flat_field Try.underlying29 h 1 _ rfl (flat_int Try.underlying3)
  obtain ⟨a2, e2, g2⟩ := flat_field Try.underlying29 h 2 _ rfl (flat_int Try.underlying3)
  obtain ⟨a3, e3, g3⟩ := flat_field Try.underlying29 h 3 _ rfl (flat_int Try.underlying3)
  obtain ⟨a4, e4, g4⟩ := flat_field Try.underlying29 h 4 _ rfl (flat_int Try.underlying3)
  obtain ⟨a5, e5, g5⟩ := flat_field Try.underlying29 h 5 _ rfl (flat_int Try.underlying3)
  obtain ⟨a6, e6, g6⟩ := flat_field Try.underlying29 h 6 _ rfl (flat_string Try.underlying9)
  match cs, hl with
  | [c0, c1, c2, c3, c4, c5, c6], _ =>
    simp [cellI, cellS, cellsOf3, cellsOf9] at e0 e1 e2 e3 e4 e5 e6
    subst e0
    subst e1
    subst e2
    subst e3
    subst e4
    subst e5
    subst e6
    exact ⟨⟨a0, a1, a2, a3, a4, a5, a6⟩, rfl, ⟨g0, g1, g2, g3, g4, g5⟩⟩
theorem cellsOf40 : Try.prog.cellsOf 40 = 9 := by kernel_rfl
def Op.Fits (a : Op) : Prop := inI64 a.kind ∧ inI64 a.at_ ∧ a.row.Fits
theorem flat_op : Flat Try.prog 40 Op.cells Op.Fits := by
  intro H enc w base spare held fuel cs x h
  have hl := flat_cells_length Try.underlying40 h
  rw [cellsOf40] at hl
  obtain ⟨a0, e0, g0⟩ := flat_field Try.underlying40 h 0 _ rfl (flat_int Try.underlying3)
  obtain ⟨a1, e1, g1⟩ := flat_field Try.underlying40 h 1 _ rfl (flat_int Try.underlying3)
  obtain ⟨a2, e2, g2⟩ := flat_field Try.underlying40 h 2 _ rfl flat_row
  match cs, hl with
  | [c0, c1, c2, c3, c4, c5, c6, c7, c8], _ =>
    simp [Row.cells, cellI, cellsOf29, cellsOf3] at e0 e1 e2
    subst e0
    subst e1
    obtain ⟨rfl, rfl, rfl, rfl, rfl, rfl, rfl⟩ := e2
    exact ⟨⟨a0, a1, a2⟩, rfl, ⟨g0, g1, g2⟩⟩
end Go.Proofs.Ytgcfpepaapdjoaa
