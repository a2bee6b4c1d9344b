/- The document's Take; steps as data; and every script's answers are the document's. -/
import Derived.Test.YtmmfobbalhpomaaRD
namespace Go.Proofs.Ytmmfobbalhpomaa
set_option linter.unusedVariables false
set_option linter.unusedSimpArgs false
open Go.RowKit

set_option maxRecDepth 100000 in
set_option maxHeartbeats 3200000 in
theorem reftake_any (b base : Nat) (o bud y pk : Int) (v : Value) (rows : List Row) (w : World) (H : RP w b base o bud y pk v rows) (ho : o = 1 ∨ o = 2) (hlt : rows.length < 16777216) :
    Calls Try.prog 18 #[.pointer (some ⟨b, 0, none⟩)] w fun e w' => ∃ v' out, e = .returned v' ∧ IsSorted o rows out ∧ Own w' w.heap.size 42 7 Row.cells v' (out.map Nm.row) ∧ RP w' b base o bud 0 pk (.slice none 0 0) [] ∧ Turn (fun k => k = b) w w' := by
  obtain ⟨A, c, rfl⟩ := own_forms H.own
  obtain ⟨n, hn⟩ : ∃ n, n = rows.length := ⟨_, rfl⟩
  have q0 := H.head.cell 0
  have q4 := H.head.cell 4
  simp only [List.getElem?_cons_succ, List.getElem?_cons_zero] at q0 q4
  have HH := Lib.hid H
  have HN := Lib.hid hn.symm
  have HBIG := Lib.hid (Own.big H.own)
  have hbl := H.head.lt
  have HRD := Lib.hid (SliceRd.drew (Own.rd H.own Row.cells_length))
  have HZ := Lib.hid (show A = none → c = 0 from fun e => by
    rcases HBIG.out.2.2.2 with ⟨-, -, h⟩ | ⟨g, h⟩
    · exact h
    · rw [e] at h; cases h)
  have HC := Lib.hid (show n ≤ c by have := HBIG.out.2.1; omega)
  rw [← hn] at q4 hlt
  clear H hn
  go_enter Try.func18, Try.ntmps18
  go_wp2_with fail
  go_region_with (go_at_call 25; refine (refsorted_any o ho n A c rows _ HN.out hlt HRD.out HZ.out HC.out HBIG.out.2.2.1).mono ?_; rintro e w5 ⟨A5, c5, out, rfl, s5, o5, b5⟩; have S5 := Lib.hid s5; have O5 := Lib.hid o5; have B5 := Lib.hid b5; have H5 := Lib.hid (RP.below (w := w.drew) ⟨HH.out.head, HH.out.own⟩ b5); have hc5 := H5.out.head.cell; have hf5 := H5.out.head.frozen; clear s5 o5 b5)
  all_goals
    have T5 := Lib.hid ((Turn.refl (fun k => k = b) w).drew.trans (Turn.of_below B5.out _))
    go_wp2_with fail
    go_ret
    have hh := ((H5.out.head.set 4 (.slice none 0 0)).set 2 (.int .i64 0))
    have t6 : Turn (fun k => k = b) w5 ((w5.setCell ⟨b, 4, none⟩ (.slice none 0 0)).setCell ⟨b, 2, none⟩ (.int .i64 0)) := (Turn.setCell (S := fun k => k = b) (p := ⟨b, 4, none⟩) (Turn.refl _ _) (.inl rfl) _).setCell (p := ⟨b, 2, none⟩) (.inl rfl) _
    refine ⟨_, out, rfl, S5.out, Own.turn O5.out t6 (fun k hk e => ?_), ⟨hh, Own.nil _ _ _ _ _⟩, T5.out.trans t6⟩
    have h9 := (Own.base O5.out k hk).1
    have e' : k = b := e
    have h10 : w.heap.size ≤ k := h9
    omega
/-- A step. -/
structure POp where
  kind : Int
  row : Row
def POp.cells (x : POp) : List Value := [.int .i64 x.kind, .int .i64 x.row.kind, .int .i64 x.row.time, .int .i64 x.row.seq, .int .i64 x.row.index, .int .i64 x.row.frm, .int .i64 x.row.to, .string x.row.body]
theorem POp.len (x : POp) : x.cells.length = 8 := rfl
def POp.Fits (x : POp) : Prop := inI64 x.kind ∧ x.row.Fits
theorem cellsOf40 : Try.prog.cellsOf 40 = 8 := by kernel_rfl
theorem flat_op : Flat Try.prog 40 POp.cells POp.Fits := by
  intro H enc w base spare held fuel cs x h
  have hl := flat_cells_length Try.underlying40 h
  rw [cellsOf40] at hl
  obtain ⟨a0, e0, g0⟩ := flat_field Try.underlying40 h 0 _ rfl (flat_int Try.underlying3)
  obtain ⟨a1, e1, g1⟩ := flat_field Try.underlying40 h 1 _ rfl flat_row
  match cs, hl with
  | [c0, c1, c2, c3, c4, c5, c6, c7], _ =>
    simp [cellI, cellsOf3] at e0
    simp [Row.cells, cellsOf30] at e1
    subst e0
    obtain ⟨b0, b1, b2, b3, b4, b5, b6⟩ := a1
    simp only at e1
    obtain ⟨rfl, rfl, rfl, rfl, rfl, rfl, rfl⟩ := e1
    exact ⟨⟨a0, ⟨b0, b1, b2, b3, b4, b5, b6⟩⟩, rfl, g0, g1⟩
end Go.Proofs.Ytmmfobbalhpomaa
