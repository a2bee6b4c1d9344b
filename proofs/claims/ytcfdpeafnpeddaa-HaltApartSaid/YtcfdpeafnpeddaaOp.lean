/- The steps of a script, opened. -/
import Derived.Test.YtcfdpeafnpeddaaOpen
import Derived.Test.YtcfdpeafnpeddaaPlay
namespace Go.Proofs.Ytcfdpeafnpeddaa
set_option linter.unusedVariables false
set_option linter.unusedSimpArgs false
open Go.RowKit Go.ChangeShapes Go.WideShapes Go.Deep

theorem cellsOf45 : Try.prog.cellsOf 45 = 3 := by kernel_rfl
def HOp.Fits (a : HOp) : Prop := inI64 a.kind ∧ inI64 a.at_ ∧ inI64 a.num
theorem flat_op : Flat Try.prog 45 HOp.cells HOp.Fits := by
  intro H enc w base spare held fuel cs x h
  have hl := flat_cells_length Try.underlying45 h
  rw [cellsOf45] at hl
  obtain ⟨a0, e0, g0⟩ := flat_field Try.underlying45 h 0 _ rfl (flat_int Try.underlying3)
  obtain ⟨a1, e1, g1⟩ := flat_field Try.underlying45 h 1 _ rfl (flat_int Try.underlying3)
  obtain ⟨a2, e2, g2⟩ := flat_field Try.underlying45 h 2 _ rfl (flat_int Try.underlying3)
  match cs, hl with
  | [c0, c1, c2], _ =>
    simp [cellI, cellsOf3] at e0 e1 e2
    subst e0
    subst e1
    subst e2
    exact ⟨⟨a0, a1, a2⟩, rfl, ⟨g0, g1, g2⟩⟩
end Go.Proofs.Ytcfdpeafnpeddaa
