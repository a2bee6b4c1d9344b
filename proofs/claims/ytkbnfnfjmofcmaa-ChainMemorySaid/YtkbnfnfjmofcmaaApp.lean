/- One element more at the end of a slice of the call's own: at a step of a region that draws, and in a list of operations. No program in sight. -/
import Derived.Test.YtkbnfnfjmofcmaaLib
import Derived.Deep.AppendLies
import Derived.Maps.AppendAt
import Derived.Laws.AppendOwnNone
namespace Go.Proofs.Ytkbnfnfjmofcmaa
set_option linter.unusedVariables false
set_option linter.unusedSimpArgs false
open Go.RowKit

theorem info_of {P : Program} {e : TypeId} {z : Value} {size bytes : Nat} (h : (P.info? e).map (fun i => (i.zero, i.size, i.bytes)) = some (some z, size, bytes)) : ∃ i, P.info? e = some i ∧ i.zero = some z ∧ i.size = size ∧ i.bytes = bytes := by
  obtain ⟨i, hi, hz⟩ := Option.map_eq_some_iff.1 h
  simp only [Prod.mk.injEq] at hz
  exact ⟨i, hi, hz.1, hz.2.1, hz.2.2⟩
theorem add_off (b off j : Nat) : (⟨b, off, none⟩ : Addr).add j = ⟨b, off + j, none⟩ := by unfold Addr.add; split <;> simp_all
theorem row_news {w : World} {B : Nat} {T : TypeId} {cs : List Value} (h : RowAt w B T cs) : ∀ j u, cs[j]? = some u → w.cell? (Addr.add ⟨B, 0, none⟩ j) = some u := by
  intro j u hj
  exact World.news_of_block h j u (by simpa using hj)
section
variable {P : Program} {α : Type} {w : World}
theorem push_step {ops : Array Oper} {o : Oper} {a : Act} {K : Act → World → Prop} {Q : Exit → Act → World → Prop} {E : Prop} (f : α → List Value) (e t T : TypeId) (z : Value) (size bytes : Nat)
    (ht : P.underlying t = some (.slice e)) (hinfo : (P.info? e).map (fun i => (i.zero, i.size, i.bytes)) = some (some z, size, bytes)) (hzs : z.cells.size = size) (hsz : 0 < size) (hf : ∀ x, (f x).length = size) (h1 : ∀ x, ∀ u ∈ f x, u.oneCell' = true)
    (s y : Operand) (hgd : o.guard = none) (ho : o.op = .call { callee := .builtin .append, args := #[s, y], argTypes := #[t, t] })
    (base : Nat) (v : Value) (xs : List α) (x : α) (hs : a.eval s = v) (hown : Own w base e size f v xs) (B c : Nat) (hx : a.eval y = .slice (some ⟨B, 0, none⟩) 1 c) (hB : RowAt w B T (f x))
    (h63 : xs.length + 1 ≤ maxLen) (hbytes : (xs.length + 1) * bytes ≤ 140737488355328) (hbase : base ≤ w.heap.size) (H : Nat) (hH : w.heap.size = H)
    (h : ∀ g cap w', Own w' base e size f (.slice (some ⟨g, 0, none⟩) (xs.length + 1) cap) (xs ++ [x]) → w.grownBy w' v.ownBlock → (v.ownBlock = some g ∨ g = H) → g < w'.heap.size → K (a.put o.dst (.slice (some ⟨g, 0, none⟩) (xs.length + 1) cap)) w') :
    if Region.wanted o (yielded ops a.tmps) = true then Oper.wp P o a w K Q else E := by
  obtain ⟨i0, hi0, hz0, hz1, hz2⟩ := info_of hinfo
  refine step_append_lies w hgd s y t ho base e i0 z size bytes ht hi0 hz0 hz1 hz2 hzs hsz v xs.length (xs.flatMap f) hs hown ⟨B, 0, none⟩ 1 c (f x) hx (by rw [hf]; omega) (row_news hB) (h1 x) (by decide) h63 hbytes hbase H hH ?_
  intro g cap w' o1 g1 l1 l2
  exact h g cap w' (Own.snoc o1) g1 l1 l2
theorem push_list {ops : Array Oper} {rest : List Oper} {o : Oper} {a : Act} {Q : Exit → Act → World → Prop} (f : α → List Value) (e t T : TypeId) (z : Value) (size bytes : Nat)
    (ht : P.underlying t = some (.slice e)) (hinfo : (P.info? e).map (fun i => (i.zero, i.size, i.bytes)) = some (some z, size, bytes)) (hzs : z.cells.size = size) (hsz : 0 < size) (hf : ∀ x, (f x).length = size) (h1 : ∀ x, ∀ u ∈ f x, u.oneCell' = true)
    (s y : Operand) (hgd : o.guard = none) (ho : o.op = .call { callee := .builtin .append, args := #[s, y], argTypes := #[t, t] })
    (base : Nat) (v : Value) (xs : List α) (x : α) (hs : a.eval s = v) (hown : Own w base e size f v xs) (B c : Nat) (hx : a.eval y = .slice (some ⟨B, 0, none⟩) 1 c) (hB : RowAt w B T (f x))
    (h63 : xs.length + 1 ≤ maxLen) (hbytes : (xs.length + 1) * bytes ≤ 140737488355328) (hbase : base ≤ w.heap.size) (H : Nat) (hH : w.heap.size = H)
    (h : ∀ g cap w', Own w' base e size f (.slice (some ⟨g, 0, none⟩) (xs.length + 1) cap) (xs ++ [x]) → w.grownBy w' v.ownBlock → (v.ownBlock = some g ∨ g = H) → g < w'.heap.size → wpList P ops Q rest (a.put o.dst (.slice (some ⟨g, 0, none⟩) (xs.length + 1) cap)) w') :
    wpList P ops Q (o :: rest) a w := by
  obtain ⟨i0, hi0, hz0, hz1, hz2⟩ := info_of hinfo
  refine wpList_append_lies w hgd s y t ho base e i0 z size bytes ht hi0 hz0 hz1 hz2 hzs hsz v xs.length (xs.flatMap f) hs hown ⟨B, 0, none⟩ 1 c (f x) hx (by rw [hf]; omega) (row_news hB) (h1 x) (by decide) h63 hbytes hbase H hH ?_
  intro g cap w' o1 g1 l1 l2
  exact h g cap w' (Own.snoc o1) g1 l1 l2
end

section
variable {P : Program} {α : Type} {w : World}
theorem append_types {t u e e' : TypeId} (ht : P.underlying t = some (.slice e)) (hu : P.underlying u = some (.slice e')) (ty : TypeId) (v y : Value) : (Builtin.append_ #[t, u] ty #[v, y]).run P w = (Builtin.append_ #[t, t] ty #[v, y]).run P w := by
  unfold Builtin.append_
  cases v <;> simp [run_underlying ht, run_underlying hu]
/-- A slice that may be read as ys: nil, or cells from its address on. -/
def ReadAt (w : World) (f : α → List Value) (v : Value) (ys : List α) : Prop := (v = .slice none 0 0 ∧ ys = []) ∨ ∃ a cap, v = .slice (some a) ys.length cap ∧ ∀ j u, (ys.flatMap f)[j]? = some u → w.cell? (a.add j) = some u
theorem Own.read {base : Nat} {e : TypeId} {size : Nat} {f : α → List Value} {v : Value} {xs : List α} (h : Own w base e size f v xs) : ReadAt w f v xs := by
  rcases h.cases with h | ⟨g, cap, rest, h1, -, -, -, h5⟩
  · exact .inl h
  · refine .inr ⟨⟨g, 0, none⟩, cap, h1, fun j u hj => ?_⟩
    rw [add_off, Nat.zero_add, h5.cell, List.getElem?_append_left (List.getElem?_eq_some_iff.1 hj).1]
    exact hj
theorem ReadAt.below {w' : World} {f : α → List Value} {v : Value} {ys : List α} (h : ReadAt w f v ys) (hb : Below w.heap.size w w') : ReadAt w' f v ys := by
  rcases h with h | ⟨a, cap, rfl, hc⟩
  · exact .inl h
  · refine .inr ⟨a, cap, rfl, fun j u hj => ?_⟩
    have h1 := hc j u hj
    exact (hb.cell (World.block_lt_of_cell? w _ h1)).trans h1
theorem run_cat (f : α → List Value) (e t u e' : TypeId) (z : Value) (size bytes : Nat)
    (ht : P.underlying t = some (.slice e)) (hu : P.underlying u = some (.slice e')) (hinfo : (P.info? e).map (fun i => (i.zero, i.size, i.bytes)) = some (some z, size, bytes)) (hzs : z.cells.size = size) (hsz : 0 < size) (hf : ∀ x, (f x).length = size) (h1 : ∀ x, ∀ u ∈ f x, u.oneCell' = true)
    (base : Nat) (v : Value) (xs ys : List α) (hown : Own w base e size f v xs) (y : Value) (hy : ReadAt w f y ys)
    (h63 : xs.length + ys.length ≤ maxLen) (hbytes : (xs.length + ys.length) * bytes ≤ 140737488355328) (hbase : base ≤ w.heap.size) (ty : TypeId) :
    ∃ v' w', (Builtin.append_ #[t, u] ty #[v, y]).run P w = .ok v' w' ∧ Own w' base e size f v' (xs ++ ys) ∧ w.grownBy w' v.ownBlock ∧ (v'.ownBlock = v.ownBlock ∨ v'.ownBlock = some w.heap.size) := by
  obtain ⟨i0, hi0, hz0, hz1, hz2⟩ := info_of hinfo
  rw [append_types ht hu]
  rcases hy with ⟨rfl, rfl⟩ | ⟨b, cap, rfl, hr⟩
  · have hrun := run_append_owned_none (P := P) (w := w) base t ty e i0 size ht hi0 v xs.length (xs.flatMap f) hown
    exact ⟨v, w, hrun, by simpa using hown, World.grownBy.refl _ _, .inl rfl⟩
  · obtain ⟨v', w', hrun, ho, hg, -, hl⟩ := run_append_own_at (P := P) w base t ty e i0 z size bytes ht hi0 hz0 hz1 hz2 hzs hsz v xs.length (xs.flatMap f) hown b ys.length cap (ys.flatMap f) (flat_length hf ys)
      hr
      (fun u hu => by obtain ⟨x, -, hx⟩ := List.mem_flatMap.1 hu; exact h1 x u hx) h63 hbytes hbase
    refine ⟨v', w', hrun, ?_, hg, hl⟩
    unfold Own
    rw [List.length_append, List.flatMap_append]
    exact ho
theorem cat_list {ops : Array Oper} {rest : List Oper} {o : Oper} {a : Act} {Q : Exit → Act → World → Prop} (f : α → List Value) (e t u e' : TypeId) (z : Value) (size bytes : Nat)
    (ht : P.underlying t = some (.slice e)) (hu : P.underlying u = some (.slice e')) (hinfo : (P.info? e).map (fun i => (i.zero, i.size, i.bytes)) = some (some z, size, bytes)) (hzs : z.cells.size = size) (hsz : 0 < size) (hf : ∀ x, (f x).length = size) (h1 : ∀ x, ∀ u ∈ f x, u.oneCell' = true)
    (s y : Operand) (hgd : o.guard = none) (ho : o.op = .call { callee := .builtin .append, args := #[s, y], argTypes := #[t, u] })
    (base : Nat) (v : Value) (xs ys : List α) (hs : a.eval s = v) (hown : Own w base e size f v xs) (yv : Value) (hx : a.eval y = yv) (hy : ReadAt w f yv ys)
    (h63 : xs.length + ys.length ≤ maxLen) (hbytes : (xs.length + ys.length) * bytes ≤ 140737488355328) (hbase : base ≤ w.heap.size)
    (h : ∀ v' w', Own w' base e size f v' (xs ++ ys) → w.grownBy w' v.ownBlock → (v'.ownBlock = v.ownBlock ∨ v'.ownBlock = some w.heap.size) → wpList P ops Q rest (a.put o.dst v') w') : wpList P ops Q (o :: rest) a w := by
  refine wpList_plain hgd fun K hK => ?_
  obtain ⟨v', w', hrun, h2, h3, h4⟩ := run_cat f e t u e' z size bytes ht hu hinfo hzs hsz hf h1 base v xs ys hown yv hy h63 hbytes hbase o.type
  unfold Oper.wp
  simp [execOp, ho, resolve, invoke, builtin, hs, hx, hrun, Result.andThen]
  exact hK _ _ (h v' w' h2 h3 h4)
end
theorem own_far {α : Type} {w : World} {base : Nat} {e : TypeId} {s : Nat} {f : α → List Value} {v : Value} {xs : List α} (h : Own w base e s f v xs) {b : Nat} {T : TypeId} {cs : List Value} (hr : RowAt w b T cs) (ne : e ≠ T) : v.ownBlock ≠ some b := by
  intro hb
  rcases h.cases with ⟨rfl, -⟩ | ⟨g, cap, rest, rfl, -, -, -, hr'⟩
  · simp [Value.ownBlock] at hb
  · have e1 : g = b := by simpa [Value.ownBlock] using hb
    subst e1
    exact hr'.ne hr ne rfl
theorem grown_far {w w' : World} {b : Nat} {v : Value} {T : TypeId} {cs : List Value} (hg : w.grownBy w' v.ownBlock) (hb : v.ownBlock ≠ some b) (h : RowAt w b T cs) : RowAt w' b T cs :=
  h.turn ((Turn.refl (fun k => v.ownBlock = some k) w).grown hg fun k hk => .inl hk) hb
theorem Own.drawn {α : Type} {w : World} {base : Nat} {e : TypeId} {size : Nat} {f : α → List Value} {v : Value} {xs : List α} (h : Own w base e size f v xs) : Own w.drew base e size f v xs := h

end Go.Proofs.Ytkbnfnfjmofcmaa
