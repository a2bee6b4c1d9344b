/- The two buffers side by side; and the same answers. -/
import Derived.Test.YtmmfobbalhpomaaRE
namespace Go.Proofs.Ytmmfobbalhpomaa
set_option linter.unusedVariables false
set_option linter.unusedSimpArgs false
open Go.RowKit

/-- The two buffers say the same. -/
structure Both (w : World) (b r base : Nat) (o bud y pk : Int) (v v' : Value) (rows : List Row) : Prop where
  bp : BP w b base o bud y pk v rows
  rp : RP w r base o bud y pk v' rows
theorem Both.below {w w' : World} {b r base : Nat} {o bud y pk : Int} {v v' : Value} {rows : List Row} (h : Both w b r base o bud y pk v v' rows) (hb : Below w.heap.size w w') : Both w' b r base o bud y pk v v' rows := ⟨h.bp.below hb, h.rp.below hb⟩
/-- The buffer turns; the document's stays. -/
theorem Both.one {w w' : World} {b r base : Nat} {o bud y pk : Int} {v v' : Value} {rows : List Row} (h : Both w b r base o bud y pk v v' rows) (ht : Turn (fun k => k = b ∨ v.ownBlock = some k) w w') : RP w' r base o bud y pk v' rows := by
  refine h.rp.turn ht (fun e => ?_) (fun k hk e => ?_)
  · rcases e with e | e
    · exact h.rp.head.ne h.bp.head (by decide) e
    · exact own_far h.bp.own h.rp.head (by decide) e
  · rcases e with e | e
    · exact own_far h.rp.own h.bp.head (by decide) (e ▸ hk)
    · exact own_ne h.rp.own h.bp.own (by decide) k hk e
/-- The document's turns; the buffer stays, whatever it now is. -/
theorem Both.two {w w' : World} {b r base base' : Nat} {o bud y pk y2 pk2 : Int} {v' v2 : Value} {rows rows2 : List Row} (h1 : BP w b base o bud y2 pk2 v2 rows2) (h2 : RP w r base' o bud y pk v' rows) (ht : Turn (fun k => k = r ∨ v'.ownBlock = some k) w w') : BP w' b base o bud y2 pk2 v2 rows2 := by
  refine h1.turn ht (fun e => ?_) (fun k hk e => ?_)
  · rcases e with e | e
    · exact h1.head.ne h2.head (by decide) e
    · exact own_far h2.own h1.head (by decide) e
  · rcases e with e | e
    · exact own_far h1.own h2.head (by decide) (e ▸ hk)
    · exact own_ne h1.own h2.own (by decide) k hk e
theorem Turn.down {S : Nat → Prop} {a w w' : World} {B : Nat} (h : Below B a w) (hB : B ≤ a.heap.size) (ht : Turn S w w') (hs : ∀ i, S i → B ≤ i) : Below B a w' :=
  h.trans (ht.below (Nat.le_trans hB h.size) fun i hi hh => by have := hs i hh; omega)
/-- What the two answer is the same. -/
theorem same_forms {w : World} {B B' : Nat} {o : Int} {v v' : Value} {rows : List Row} {o1 o2 : List Nm} (h : Own w B 30 7 Row.cells v (o1.map Nm.row)) (h' : Own w B' 42 7 Row.cells v' (o2.map Nm.row)) (s1 : IsSorted o rows o1) (s2 : IsSorted o rows o2) (ho : o = 1 ∨ o = 2) (hl : rows.length < 16777216) :
    Calls Try.prog 17 #[v, v'] w fun e w' => e = .returned (.bool true) ∧ Below w.heap.size w w' := by
  obtain rfl : o1 = o2 := s1.unique ho s2
  obtain ⟨A1, d1, rfl⟩ := own_forms h
  obtain ⟨A2, d2, rfl⟩ := own_forms h'
  exact samerows_any (o1.map Nm.row) _ A1 A2 d1 d2 w rfl (by rw [List.length_map, s1.length]; omega) (Own.rd h Row.cells_length) (Own.rd h' Row.cells_length)

end Go.Proofs.Ytmmfobbalhpomaa
