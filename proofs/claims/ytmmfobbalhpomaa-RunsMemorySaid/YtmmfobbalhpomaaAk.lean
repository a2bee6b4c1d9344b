/- One element more at the end of a slice of the call's own: in its own block, or in a new one, and then every elder block stays. No program in sight. -/
import Derived.Test.YtmmfobbalhpomaaApp
import Derived.Test.YtmmfobbalhpomaaMk
namespace Go.Proofs.Ytmmfobbalhpomaa
set_option linter.unusedVariables false
set_option linter.unusedSimpArgs false
open Go.RowKit

/-- The head of what a slice holds. -/
theorem Own.shrink {α : Type} {w : World} {base : Nat} {e : TypeId} {size : Nat} {f : α → List Value} {g n cap : Nat} {xs ys : List α} (hf : ∀ x, (f x).length = size) (h : Own w base e size f (.slice (some ⟨g, 0, none⟩) n cap) (xs ++ ys)) : Own w base e size f (.slice (some ⟨g, 0, none⟩) xs.length cap) xs := by
  obtain ⟨h1, h2⟩ := h
  rcases h2 with ⟨h2, -⟩ | ⟨g', cap', cur, e1, hb, hh, hl, hm, hc, ht⟩
  · cases h2
  · injection e1 with e3 e4 e5
    injection e3 with e3
    injection e3 with e3
    subst e3 e5
    rw [List.length_append] at hl ht
    refine ⟨flat_length hf xs, .inr ⟨g, cap, cur, rfl, hb, hh, by omega, hm, hc, ?_⟩⟩
    have h3 := congrArg (List.take (xs.length * size)) ht
    rw [List.take_take, List.flatMap_append, List.take_left' (flat_length hf xs), Nat.min_eq_left (Nat.mul_le_mul_right size (by omega))] at h3
    exact h3
section
variable {P : Program} {α : Type} {w : World}
theorem run_keep (f : α → List Value) (e t : TypeId) (z : Value) (size bytes : Nat)
    (ht : P.underlying t = some (.slice e)) (hinfo : (P.info? e).map (fun i => (i.zero, i.size, i.bytes)) = some (some z, size, bytes)) (hzs : z.cells.size = size) (hsz : 0 < size) (hf : ∀ x, (f x).length = size) (h1 : ∀ x, ∀ u ∈ f x, u.oneCell' = true)
    (base : Nat) (v : Value) (xs : List α) (x : α) (hown : Own w base e size f v xs) (B c : Nat) {T : TypeId} (hB : RowAt w B T (f x))
    (h63 : xs.length + 1 ≤ maxLen) (hbytes : (xs.length + 1) * bytes ≤ 140737488355328) (hbase : base ≤ w.heap.size) (ty : TypeId) :
    ∃ g cap w', (Builtin.append_ #[t, t] ty #[v, .slice (some ⟨B, 0, none⟩) 1 c]).run P w = .ok (.slice (some ⟨g, 0, none⟩) (xs.length + 1) cap) w' ∧ Own w' base e size f (.slice (some ⟨g, 0, none⟩) (xs.length + 1) cap) (xs ++ [x]) ∧
      ((v.ownBlock = some g ∧ w.grownBy w' v.ownBlock) ∨ (g = w.heap.size ∧ Below w.heap.size w w')) ∧ g < w'.heap.size := by
  obtain ⟨i0, hi0, hz0, hz1, hz2⟩ := info_of hinfo
  obtain ⟨v', w', hr, h2, h3, h4, h5⟩ := run_append_own_at (P := P) w base t ty e i0 z size bytes ht hi0 hz0 hz1 hz2 hzs hsz v xs.length (xs.flatMap f) hown ⟨B, 0, none⟩ 1 c (f x) (by rw [hf]; omega) (row_news hB) (h1 x) h63 hbytes hbase
  have ho : Own w' base e size f v' (xs ++ [x]) := Own.snoc h2
  rcases ho.cases with ⟨-, h⟩ | ⟨g, cap, rest, rfl, hb, hl, hm, hrow⟩
  · simp at h
  · rw [List.length_append, List.length_singleton] at ho hr h5
    refine ⟨g, cap, w', hr, ho, ?_, hrow.lt⟩
    rcases h5 with h5 | h5
    · exact .inl ⟨h5.symm, h3⟩
    · have eg : g = w.heap.size := by simpa [Value.ownBlock] using h5
      refine .inr ⟨eg, ?_⟩
      rcases hown.cases with ⟨rfl, rfl⟩ | ⟨go, co, ro, rfl, hbo, hlo, hmo, hrowo⟩
      · exact ⟨h3.os, h3.tape, h3.output, h3.size, fun k hk => h3.block k hk (by simp [Value.ownBlock])⟩
      · by_cases hroom : xs.length + 1 ≤ co
        · obtain ⟨hh1, hh2⟩ := hown
          rcases hh2 with ⟨hh2, -⟩ | ⟨g', cap', cur, e1, hb', hh, hl', hm', hc', ht'⟩
          · cases hh2
          · injection e1 with e3 e4 e5
            injection e3 with e3
            injection e3 with e3
            subst e3 e5
            subst hz1
            have hfit : xs.length * i0.size + (f x).length ≤ cur.size := by
              rw [hf, hc']
              have := Nat.mul_le_mul_right i0.size hroom
              rw [Nat.succ_mul] at this
              exact this
            have hr2 := run_append_room (P := P) w t ty e i0 ht hi0 go xs.length co cur hh ⟨B, 0, none⟩ 1 c (f x) (by rw [hf]; omega) (row_news hB) (h1 x) hroom hfit
            rw [hr2] at hr
            injection hr with hr3 hr4
            injection hr3 with hr5
            injection hr5 with hr5
            injection hr5 with hr5
            have := (Array.getElem?_eq_some_iff.1 hh).1
            omega
        · subst hz1 hz2
          have hc : ∀ (j : Nat) (u : Value), (xs.flatMap f)[j]? = some u → w.cell? ((⟨go, 0, none⟩ : Addr).add j) = some u := World.ownsRow.cells (g := go) hown rfl
          have hr2 := run_append_grow (P := P) w t ty e i0 z ht hi0 hz0 ⟨go, 0, none⟩ xs.length co (xs.flatMap f) (flat_length hf xs) hc ⟨B, 0, none⟩ 1 c (f x) (by rw [hf]; omega) (row_news hB) (by omega) (by unfold maxLen at h63; omega) (growslice_fits (by omega) hbytes)
          rw [hr2] at hr
          injection hr with hr3 hr4
          rw [← hr4]
          exact ((Below.refl w.heap.size w).drew).alloc (Nat.le_refl _) _
theorem keep_list {ops : Array Oper} {rest : List Oper} {o : Oper} {a : Act} {Q : Exit → Act → World → Prop} (f : α → List Value) (e t T : TypeId) (z : Value) (size bytes : Nat)
    (ht : P.underlying t = some (.slice e)) (hinfo : (P.info? e).map (fun i => (i.zero, i.size, i.bytes)) = some (some z, size, bytes)) (hzs : z.cells.size = size) (hsz : 0 < size) (hf : ∀ x, (f x).length = size) (h1 : ∀ x, ∀ u ∈ f x, u.oneCell' = true)
    (s y : Operand) (hgd : o.guard = none) (ho : o.op = .call { callee := .builtin .append, args := #[s, y], argTypes := #[t, t] })
    (base : Nat) (v : Value) (xs : List α) (x : α) (hs : a.eval s = v) (hown : Own w base e size f v xs) (B c : Nat) (hx : a.eval y = .slice (some ⟨B, 0, none⟩) 1 c) (hB : RowAt w B T (f x))
    (h63 : xs.length + 1 ≤ maxLen) (hbytes : (xs.length + 1) * bytes ≤ 140737488355328) (hbase : base ≤ w.heap.size)
    (h : ∀ g cap w', Own w' base e size f (.slice (some ⟨g, 0, none⟩) (xs.length + 1) cap) (xs ++ [x]) → ((v.ownBlock = some g ∧ w.grownBy w' v.ownBlock) ∨ (g = w.heap.size ∧ Below w.heap.size w w')) → g < w'.heap.size → wpList P ops Q rest (a.put o.dst (.slice (some ⟨g, 0, none⟩) (xs.length + 1) cap)) w') :
    wpList P ops Q (o :: rest) a w := by
  refine wpList_plain hgd fun K hK => ?_
  obtain ⟨g, cap, w', hrun, h2, h3, h4⟩ := run_keep f e t z size bytes ht hinfo hzs hsz hf h1 base v xs x hown B c hB h63 hbytes hbase o.type
  unfold Oper.wp
  simp [execOp, ho, resolve, invoke, builtin, hs, hx, hrun, Result.andThen]
  exact hK _ _ (h g cap w' h2 h3 h4)
end
end Go.Proofs.Ytmmfobbalhpomaa
