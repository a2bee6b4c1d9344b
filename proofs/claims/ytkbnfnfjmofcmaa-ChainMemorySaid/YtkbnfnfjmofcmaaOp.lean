/- A step of a chain's script as it lies in memory. -/
import Derived.Test.YtkbnfnfjmofcmaaC5
import Derived.Test.YtkbnfnfjmofcmaaOpen
namespace Go.Proofs.Ytkbnfnfjmofcmaa
set_option linter.unusedVariables false
set_option linter.unusedSimpArgs false
open Go.RowKit Go.ChangeShapes Go.WideShapes Go.Deep

structure okStr (s : ByteArray) : Prop where
  le : s.size ≤ maxLen
theorem flat_key {P : Program} {t : TypeId} (ht : P.underlying t = some .string) : Flat P t cellS okStr := by
  intro H enc w base spare held fuel cs x h
  obtain ⟨s, rfl, -, hs⟩ := DataW.trod_string ht h
  exact ⟨s, rfl, ⟨hs⟩⟩
theorem cellsOf3 : Try.prog.cellsOf 3 = 1 := by kernel_rfl
theorem cellsOf4 : Try.prog.cellsOf 4 = 1 := by kernel_rfl
theorem cellsOf9 : Try.prog.cellsOf 9 = 1 := by kernel_rfl
theorem cellsOf27 : Try.prog.cellsOf 27 = 4 := by kernel_rfl
def Ver.Fits (a : Ver) : Prop := inI64 a.commit ∧ inI64 a.writer ∧ okStr a.value
set_option maxRecDepth 10000 in
theorem flat_ver : Flat Try.prog 27 Ver.cells Ver.Fits := by
  intro H enc w base spare held fuel cs x h
  have hl := flat_cells_length Try.underlying27 h
  rw [cellsOf27] at hl
  obtain ⟨a0, e0, g0⟩ := flat_field Try.underlying27 h 0 _ rfl (flat_int Try.underlying3)
  obtain ⟨a1, e1, g1⟩ := flat_field Try.underlying27 h 1 _ rfl (flat_int Try.underlying3)
  obtain ⟨a2, e2, g2⟩ := flat_field Try.underlying27 h 2 _ rfl (flat_bool Try.underlying4)
  obtain ⟨a3, e3, g3⟩ := flat_field Try.underlying27 h 3 _ rfl (flat_key Try.underlying9)
  match cs, hl with
  | [c0, c1, c2, c3], _ =>
    simp [cellB, cellI, cellS, cellsOf3, cellsOf4, cellsOf9] at e0 e1 e2 e3
    subst e0
    subst e1
    subst e2
    subst e3
    exact ⟨⟨a0, a1, a2, a3⟩, rfl, ⟨g0, g1, g3⟩⟩
structure Op where
  kind : Int
  time : Int
  key : ByteArray
  v : Ver
def Op.cells (o : Op) : List Value := [.int .i64 o.kind, .int .i64 o.time, .string o.key, .int .i64 o.v.commit, .int .i64 o.v.writer, .bool o.v.found, .string o.v.value]
theorem Op.len (o : Op) : o.cells.length = 7 := rfl
theorem cellsOf35 : Try.prog.cellsOf 35 = 7 := by kernel_rfl
def Op.Fits (a : Op) : Prop := inI64 a.kind ∧ inI64 a.time ∧ okStr a.key ∧ a.v.Fits
set_option maxRecDepth 10000 in
theorem flat_op : Flat Try.prog 35 Op.cells Op.Fits := by
  intro H enc w base spare held fuel cs x h
  have hl := flat_cells_length Try.underlying35 h
  rw [cellsOf35] at hl
  obtain ⟨a0, e0, g0⟩ := flat_field Try.underlying35 h 0 _ rfl (flat_int Try.underlying3)
  obtain ⟨a1, e1, g1⟩ := flat_field Try.underlying35 h 1 _ rfl (flat_int Try.underlying3)
  obtain ⟨a2, e2, g2⟩ := flat_field Try.underlying35 h 2 _ rfl (flat_key Try.underlying9)
  obtain ⟨a3, e3, g3⟩ := flat_field Try.underlying35 h 3 _ rfl flat_ver
  match cs, hl with
  | [c0, c1, c2, c3, c4, c5, c6], _ =>
    simp [Ver.cells, Op.cells, cellI, cellS, cellsOf27, cellsOf3, cellsOf9] at e0 e1 e2 e3
    subst e0
    subst e1
    subst e2
    obtain ⟨rfl, rfl, rfl, rfl⟩ := e3
    exact ⟨⟨a0, a1, a2, a3⟩, rfl, ⟨g0, g1, g2, g3⟩⟩

end Go.Proofs.Ytkbnfnfjmofcmaa
