/- The rows of the arguments, opened. -/
import Derived.Test.YtmmfobbalhpomaaOpen
import Derived.Test.YtmmfobbalhpomaaSs
namespace Go.Proofs.Ytmmfobbalhpomaa
set_option linter.unusedVariables false
set_option linter.unusedSimpArgs false
open Go.RowKit Go.ChangeShapes Go.WideShapes Go.Deep

theorem cellsOf9 : Try.prog.cellsOf 9 = 1 := by kernel_rfl
theorem cellsOf30 : Try.prog.cellsOf 30 = 7 := by kernel_rfl
def Row.Fits (a : Row) : Prop := inI64 a.kind ∧ inI64 a.time ∧ inI64 a.seq ∧ inI64 a.index ∧ inI64 a.frm ∧ inI64 a.to
theorem flat_row : Flat Try.prog 30 Row.cells Row.Fits := by
  intro H enc w base spare held fuel cs x h
  have hl := flat_cells_length Try.underlying30 h
  rw [cellsOf30] at hl
  obtain ⟨a0, e0, g0⟩ := flat_field Try.underlying30 h 0 _ rfl (flat_int Try.underlying3)
  obtain ⟨a1, e1, g1⟩ := flat_field Try.underlying30 h 1 _ rfl (flat_int Try.underlying3)
  obtain ⟨a2, e2, g2⟩ := flat_field Try.underlying30 h 2 _ rfl (flat_int Try.underlying3)
  obtain ⟨a3, e3, g3⟩ := flat_field Try.underlying30 h 3 _ rfl (flat_int Try.underlying3)
  obtain ⟨a4, e4, g4⟩ := flat_field Try.underlying30 h 4 _ rfl (flat_int Try.underlying3)
  obtain ⟨a5, e5, g5⟩ := flat_field Try.underlying30 h 5 _ rfl (flat_int Try.underlying3)
  obtain ⟨a6, e6, g6⟩ := flat_field Try.underlying30 h 6 _ rfl (flat_string Try.underlying9)
  match cs, hl with
  | [c0, c1, c2, c3, c4, c5, c6], _ =>
    simp [cellI, cellS, cellsOf3, cellsOf9] at e0 e1 e2 e3 e4 e5 e6
    subst e0
    subst e1
    subst e2
    subst e3
    subst e4
    subst e5
    subst e6
    exact ⟨⟨a0, a1, a2, a3, a4, a5, a6⟩, rfl, ⟨g0, g1, g2, g3, g4, g5⟩⟩
end Go.Proofs.Ytmmfobbalhpomaa
