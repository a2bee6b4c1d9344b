/- Merge, walked: over lists in order it gives the sorted whole. -/
import Derived.Test.YtgcfpepaapdjoaaMC
import Derived.Test.YtgcfpepaapdjoaaApp
import Derived.Test.YtgcfpepaapdjoaaStep
namespace Go.Proofs.Ytgcfpepaapdjoaa
set_option linter.unusedVariables false
set_option linter.unusedSimpArgs false
open Go.RowKit

theorem row_one (x : Row) : ∀ u ∈ x.cells, u.oneCell' = true := by
  intro u hu
  simp [Row.cells] at hu
  rcases hu with rfl | rfl | rfl | rfl | rfl | rfl | rfl <;> rfl
theorem own_forms {α : Type} {w : World} {base : Nat} {e : TypeId} {size : Nat} {f : α → List Value} {v : Value} {xs : List α} (h : Own w base e size f v xs) : ∃ A c, v = .slice A xs.length c := by
  rcases h.cases with ⟨rfl, rfl⟩ | ⟨g, cap, rest, rfl, -⟩
  · exact ⟨none, 0, rfl⟩
  · exact ⟨_, _, rfl⟩
theorem numsL_at (rs : List (List Row)) (i : Nat) : ((numsL 0 rs).getD i []).map Nm.row = rs.getD i [] := by
  have h := numsL_rows 0 rs
  conv => rhs; rw [← h]
  rw [List.getD_eq_getElem?_getD, List.getD_eq_getElem?_getD, List.getElem?_map]
  cases (numsL 0 rs)[i]? <;> rfl
/-- Where everything lies. -/
structure Fix (w0 : World) (g bs bl gA h0 : Nat) : Prop where
  a1 : w0.heap.size ≤ g
  a2 : w0.heap.size ≤ bs
  a3 : w0.heap.size ≤ bl
  b1 : g < gA
  b2 : bs < gA
  b3 : bl < gA
  c : gA < h0
/-- The state of a merge under way. -/
structure MSt (w0 : World) (g bs bl gA h0 : Nat) (o : Int) (L : List (List Nm)) (all : List Row) (rems : List (List Nm)) (out : List Nm) (vo : Value) (xs : List Src) (ats : List Nat) (w : World) : Prop where
  tr : Tr w g bs bl o xs
  run : Run L xs ats rems
  mg : MG o all out rems
  arr : RowAt w gA 3 (ats.flatMap natCell)
  own : Own w h0 29 7 Row.cells vo (out.map Nm.row)
  low : Below w0.heap.size w0 w
section
variable {w0 : World} {g bs bl gA h0 : Nat} {o : Int} {L : List (List Nm)} {all : List Row} {rems : List (List Nm)} {out : List Nm} {vo : Value} {xs : List Src} {ats : List Nat} {w w1 w' : World}
theorem Fix.three (F : Fix w0 g bs bl gA h0) {b : Nat} (hb : gA ≤ b) : ¬ Three g bs bl b := by
  have := F.b1; have := F.b2; have := F.b3
  unfold Three
  omega
theorem Fix.low (F : Fix w0 g bs bl gA h0) : ∀ i, i < w0.heap.size → ¬ Three g bs bl i := by
  intro i hi
  have := F.a1; have := F.a2; have := F.a3
  unfold Three
  omega
theorem MSt.tree (h : MSt w0 g bs bl gA h0 o L all rems out vo xs ats w) (F : Fix w0 g bs bl gA h0) {xs' : List Src} (ht : Turn (Three g bs bl) w w') (hx : Tr w' g bs bl o xs') (hr : Run L xs' ats rems) : MSt w0 g bs bl gA h0 o L all rems out vo xs' ats w' :=
  ⟨hx, hr, h.mg, h.arr.turn ht (F.three (Nat.le_refl _)), h.own.turn ht fun k hk => F.three (by have := (Own.base h.own k hk).1; have := F.c; omega), h.low.trans (ht.below h.low.size F.low)⟩
theorem MSt.fed (h : MSt w0 g bs bl gA h0 o L all rems out vo xs ats w) (F : Fix w0 g bs bl gA h0) {xs' : List Src} {i a : Nat} (ht : Turn (Three g bs bl) w w1) (hx : Tr w1 g bs bl o xs') (hr : Run L xs' (ats.set i a) rems) :
    MSt w0 g bs bl gA h0 o L all rems out vo xs' (ats.set i a) (w1.setCell ⟨gA, i, none⟩ (.int .i64 (a : Nat))) := by
  have hs : Turn (fun k => k = gA) w1 (w1.setCell ⟨gA, i, none⟩ (.int .i64 (a : Nat))) := Turn.setCell (S := fun k => k = gA) (p := ⟨gA, i, none⟩) (Turn.refl _ _) (.inl rfl) _
  have b1 := F.b1; have b2 := F.b2; have b3 := F.b3; have c := F.c
  refine ⟨hx.turn hs (by omega) (by omega) (by omega), hr, h.mg, ?_, ?_, ?_⟩
  · have h1 := (h.arr.turn ht (F.three (Nat.le_refl _))).set i (.int .i64 (a : Nat))
    rw [natCells, ← List.map_set (f := fun n : Nat => Value.int .i64 (n : Nat)) (a := a), ← natCells] at h1
    exact h1
  · exact (h.own.turn ht fun k hk => F.three (by have := (Own.base h.own k hk).1; omega)).turn hs fun k hk e => by have := (Own.base h.own k hk).1; omega
  · exact (h.low.trans (ht.below h.low.size F.low)).setCell (by have := F.a1; simp only; omega) _
theorem MSt.below (h : MSt w0 g bs bl gA h0 o L all rems out vo xs ats w) (hb : Below w.heap.size w w') : MSt w0 g bs bl gA h0 o L all rems out vo xs ats w' :=
  ⟨h.tr.below hb, h.run, h.mg, h.arr.below hb, h.own.below hb, h.low.trans (hb.mono h.low.size)⟩
/-- A row more is out. -/
theorem mst_push (F : Fix w0 g bs bl gA h0) {y : Nm} {vo' : Value} (ht : Tr w g bs bl o xs) (ha : RowAt w gA 3 (ats.flatMap natCell)) (hw : Own w h0 29 7 Row.cells vo (out.map Nm.row)) (hl : Below w0.heap.size w0 w) (hr : Run L xs ats rems) (hm : MG o all (out ++ [y]) rems) (hg : w.grownBy w' vo.ownBlock) (ho : Own w' h0 29 7 Row.cells vo' (out.map Nm.row ++ [y.row])) :
    MSt w0 g bs bl gA h0 o L all rems (out ++ [y]) vo' xs ats w' := by
  have hf : ∀ k, vo.ownBlock = some k → gA < k := fun k hk => by have := (Own.base hw k hk).1; have := F.c; omega
  have hT : Turn (fun k => vo.ownBlock = some k) w w' := (Turn.refl _ w).grown hg fun k hk => .inl hk
  have b1 := F.b1; have b2 := F.b2; have b3 := F.b3; have c := F.c; have a1 := F.a1
  refine ⟨ht.turn hT (fun e => by have := hf _ e; omega) (fun e => by have := hf _ e; omega) (fun e => by have := hf _ e; omega), hr, hm, ha.turn hT (fun e => by have := hf _ e; omega), by rw [List.map_append]; exact ho, hl.trans (hT.below hl.size fun i hi e => by have := hf _ e; omega)⟩
end
theorem fin_at {xs : List Src} {i : Nat} (hi : i < xs.length) (h0 : (at' xs i).st = 0) : finS xs i = xs.set i Src.fin := by
  have hw : waitA xs i = 0 := by
    unfold waitA
    rw [if_neg (by omega), Int.toNat_natCast, if_pos h0]
  unfold finS
  rw [if_pos hw, Int.toNat_natCast]
def lenV : Value → Nat
  | .slice _ n _ => n
  | _ => 0
end Go.Proofs.Ytgcfpepaapdjoaa
