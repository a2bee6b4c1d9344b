/- The heap of the runs package: its memory, and 'push'. -/
import Derived.Test.YtmmfobbalhpomaaNm
import Derived.Deep.RegionLaw
import Derived.Deep.AppendLies
import Derived.BigRegion
namespace Go.Proofs.Ytmmfobbalhpomaa
set_option linter.unusedVariables false
set_option linter.unusedSimpArgs false
open Go.RowKit

abbrev lessV (ob : Nat) : Value := .func (.func 35) #[] #[.pointer (some ⟨ob, 0, none⟩)]
structure HP (w : World) (h ob base : Nat) (o : Int) (v : Value) (xs : List Nm) : Prop where
  head : RowAt w h 78 [v, lessV ob]
  ord : RowAt w ob 3 [.int .i64 o]
  own : Own w base 74 8 Nm.cells v xs
section
variable {w w' : World} {h ob base : Nat} {o : Int} {v : Value} {xs : List Nm}
theorem HP.turn (H : HP w h ob base o v xs) {S : Nat → Prop} (ht : Turn S w w') (h1 : ¬ S h) (h2 : ¬ S ob) (h3 : ∀ b, v.ownBlock = some b → ¬ S b) : HP w' h ob base o v xs :=
  ⟨H.head.turn ht h1, H.ord.turn ht h2, H.own.turn ht h3⟩
theorem HP.below (H : HP w h ob base o v xs) (hb : Below w.heap.size w w') : HP w' h ob base o v xs := H.turn (Turn.of_below hb fun _ => False) id id fun _ _ => id
theorem HP.drew (H : HP w h ob base o v xs) : HP w.drew h ob base o v xs := ⟨H.head, H.ord, H.own⟩
theorem HP.view (H : HP w h ob base o v xs) (hl : 0 < xs.length) : ∃ g cap rest, v = .slice (some ⟨g, 0, none⟩) xs.length cap ∧ base ≤ g ∧ xs.length ≤ cap ∧ cap ≤ maxLen ∧ RowAt w g 74 (xs.flatMap Nm.cells ++ rest) := by
  rcases H.own.cases with ⟨-, e⟩ | hh
  · subst e; simp at hl
  · exact hh
theorem HP.far (H : HP w h ob base o v xs) (b : Nat) (hb : v.ownBlock = some b) : b ≠ h ∧ b ≠ ob := by
  rcases H.own.cases with ⟨rfl, -⟩ | ⟨g, cap, rest, rfl, -, -, -, hr⟩
  · simp [Value.ownBlock] at hb
  · have : g = b := by simpa [Value.ownBlock] using hb
    subst this
    exact ⟨hr.ne H.head (by decide), hr.ne H.ord (by decide)⟩
theorem HP.cells (H : HP w h ob base o v xs) {g n cap : Nat} (hv : v = .slice (some ⟨g, 0, none⟩) n cap) {i : Nat} (hi : i < xs.length) :
    ∀ j, j < 8 → w.cell? ⟨g, i * 8 + j, none⟩ = (gt Nm.zero xs i).cells[j]? := by
  obtain ⟨g', cap', rest, e, -, -, -, hr⟩ := H.view (by omega)
  rw [hv] at e
  injection e with e
  injection e with e
  injection e with e
  subst e
  intro j hj
  rw [hr.cell, List.getElem?_append_left (by rw [flat_length Nm.len]; omega), flat_at Nm.len xs i j hj (gt_some Nm.zero hi)]
theorem nm_at {w : World} {g i : Nat} {x : Nm} (h : ∀ j, j < 8 → w.cell? ⟨g, i * 8 + j, none⟩ = x.cells[j]?) :
    w.cell? ⟨g, i * 8, none⟩ = some (.int .i64 x.row.kind) ∧ w.cell? ⟨g, i * 8 + 1, none⟩ = some (.int .i64 x.row.time) ∧ w.cell? ⟨g, i * 8 + 2, none⟩ = some (.int .i64 x.row.seq) ∧ w.cell? ⟨g, i * 8 + 3, none⟩ = some (.int .i64 x.row.index) ∧
    w.cell? ⟨g, i * 8 + 4, none⟩ = some (.int .i64 x.row.frm) ∧ w.cell? ⟨g, i * 8 + 5, none⟩ = some (.int .i64 x.row.to) ∧ w.cell? ⟨g, i * 8 + 6, none⟩ = some (.string x.row.body) ∧ w.cell? ⟨g, i * 8 + 7, none⟩ = some (.int .i64 x.at_) :=
  ⟨h 0 (by omega), h 1 (by omega), h 2 (by omega), h 3 (by omega), h 4 (by omega), h 5 (by omega), h 6 (by omega), h 7 (by omega)⟩
end
theorem info74 : ∃ i, Try.prog.info? 74 = some i ∧ i.zero = some (.agg Nm.zero.cells.toArray) ∧ i.size = 8 ∧ i.bytes = 72 := by
  have h : (Try.prog.info? 74).map (fun i => (i.zero, i.size, i.bytes)) = some (some (.agg Nm.zero.cells.toArray), 8, 72) := by kernel_rfl
  cases hi : Try.prog.info? 74 with
  | none => rw [hi] at h; cases h
  | some i =>
    rw [hi] at h
    simp only [Option.map_some, Option.some.injEq, Prod.mk.injEq] at h
    exact ⟨i, rfl, h.1, h.2.1, h.2.2⟩
theorem new_cells (w : World) (T : TypeId) (cs : List Value) : ∀ j u, cs[j]? = some u → ((w.drew).alloc (.cells cs.toArray T)).cell? (Addr.add ⟨w.heap.size, 0, none⟩ j) = some u := by
  intro j u hj
  exact World.news_of_block (w := (w.drew).alloc (.cells cs.toArray T)) (B := w.heap.size) (RowAt.new w.drew T cs) j u (by simpa using hj)
theorem Own.drew {α : Type} {w : World} {base : Nat} {e : TypeId} {size : Nat} {f : α → List Value} {v : Value} {xs : List α} (h : Own w base e size f v xs) : Own w.drew base e size f v xs := h
theorem hgrow_step {ops : Array Oper} {o : Oper} {a : Act} {K : Act → World → Prop} {Q : Exit → Act → World → Prop} {E : Prop} {W2 : World} {n base : Nat} {v : Value} {xs : List Nm} (s : Nm)
    (hgd : o.guard = none) (ho : o.op = .call { callee := .builtin .append, args := #[.tmp 10, .tmp 12], argTypes := #[76, 76] })
    (o2 : Own W2 base 74 8 Nm.cells v xs) (hn : n = xs.length) (hs : a.eval (.tmp 10) = v) (hx : a.eval (.tmp 12) = .slice (some ⟨W2.heap.size, 0, none⟩) 1 1) (h4 : n < 16777216) (hbs : base ≤ W2.heap.size)
    (h : ∀ g' cap' w', w'.ownsRow base 74 8 (.slice (some ⟨g', 0, none⟩) (n + 1) cap') (n + 1) (xs.flatMap Nm.cells ++ s.cells) → ((W2.drew).alloc (.cells s.cells.toArray 74)).grownBy w' v.ownBlock → (v.ownBlock = some g' ∨ g' = W2.heap.size + 1) → K (a.put o.dst (.slice (some ⟨g', 0, none⟩) (n + 1) cap')) w') :
    if Region.wanted o (yielded ops a.tmps) = true then Oper.wp Try.prog o a ((W2.drew).alloc (.cells s.cells.toArray 74)) K Q else E := by
  obtain ⟨i0, hi0, hz0, hz1, hz2⟩ := info74
  have o3 := (Own.drew o2).alloc (.cells s.cells.toArray 74)
  unfold Own at o3
  rw [← hn] at o3
  refine step_append_lies _ hgd _ _ _ ho base 74 i0 (.agg Nm.zero.cells.toArray) 8 72 Try.underlying76 hi0 hz0 hz1 hz2 rfl (by decide) _ n _ hs o3 ⟨W2.heap.size, 0, none⟩ 1 1 s.cells hx rfl (new_cells W2 74 s.cells) ?_ (by decide) (by unfold maxLen; omega) (by omega) ?_ (W2.heap.size + 1) ?_ ?_
  · intro u hu
    simp [Nm.cells] at hu
    rcases hu with rfl | rfl | rfl | rfl | rfl | rfl | rfl | rfl <;> rfl
  · have : ((W2.drew).alloc (.cells s.cells.toArray 74)).heap.size = W2.heap.size + 1 := (by simp : (W2.alloc (.cells s.cells.toArray 74)).heap.size = W2.heap.size + 1)
    omega
  · exact (by simp : (W2.alloc (.cells s.cells.toArray 74)).heap.size = W2.heap.size + 1)
  · intro g' cap' w' h1 h2 h3 _
    exact h g' cap' w' h1 h2 h3
theorem grown_row {w w' : World} {b : Nat} {v : Value} {T : TypeId} {cs : List Value} (hg : w.grownBy w' v.ownBlock) (hb : v.ownBlock ≠ some b) (h : RowAt w b T cs) : RowAt w' b T cs :=
  h.turn ((Turn.refl (fun k => v.ownBlock = some k) w).grown hg fun k hk => .inl hk) hb
theorem setRun_take (cs vs : List Value) (o N : Nat) (h : o + vs.length ≤ N) (hN : N ≤ cs.length) : (setRun cs o vs).take N = setRun (cs.take N) o vs := by
  apply List.ext_getElem?
  intro k
  rw [List.getElem?_take, setRun_at, setRun_at, List.length_take, List.getElem?_take]
  by_cases hk : k < N
  · rw [if_pos hk, if_pos hk]
    by_cases h2 : o ≤ k ∧ k < o + vs.length
    · rw [if_pos ⟨h2.1, h2.2, by omega⟩, if_pos ⟨h2.1, h2.2, by omega⟩]
    · rw [if_neg (fun hh => h2 ⟨hh.1, hh.2.1⟩), if_neg (fun hh => h2 ⟨hh.1, hh.2.1⟩)]
  · rw [if_neg hk, if_neg (by omega), if_neg hk]
theorem HP.put {w : World} {h ob base g n cap : Nat} {o : Int} {xs : List Nm} (H : HP w h ob base o (.slice (some ⟨g, 0, none⟩) n cap) xs) {i : Nat} (hi : i < xs.length) (y : Nm) :
    HP (wset w g (i * 8) y.cells) h ob base o (.slice (some ⟨g, 0, none⟩) n cap) (xs.set i y) := by
  have hf := H.far g rfl
  have ht : Turn (fun b => b = g) w (wset w g (i * 8) y.cells) := Turn.wset (S := fun b => b = g) (.inl rfl) _ _ (Turn.refl _ _)
  refine ⟨H.head.turn ht (fun e => hf.1 e.symm), H.ord.turn ht (fun e => hf.2 e.symm), ?_⟩
  obtain ⟨h1, h2⟩ := H.own
  refine ⟨by rw [flat_length Nm.len], ?_⟩
  rcases h2 with ⟨e, -⟩ | ⟨g', cap', cur, e, hb, hh, hl, hm, hc, htk⟩
  · simp at e
  · injection e with e1 e2 e3
    injection e1 with e1
    injection e1 with e1
    subst e1
    subst e3
    have hr : RowAt w g 74 cur.toList := by unfold RowAt; simpa using hh
    have hr2 := hr.wset y.cells (i * 8)
    refine .inr ⟨g, cap, (setRun cur.toList (i * 8) y.cells).toArray, by rw [List.length_set, e2], hb, hr2, by rw [List.length_set]; exact hl, hm, ?_, ?_⟩
    · rw [List.size_toArray, setRun_length]
      simpa using hc
    · rw [List.length_set, ← flat_set Nm.len xs i y hi, ← htk]
      exact setRun_take _ _ _ _ (by rw [Nm.len]; omega) (Nat.le_trans (Nat.mul_le_mul_right 8 hl) (Nat.le_of_eq (by simpa using hc.symm)))
end Go.Proofs.Ytmmfobbalhpomaa
