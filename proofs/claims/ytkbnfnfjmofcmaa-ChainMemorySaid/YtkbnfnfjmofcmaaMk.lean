/- A row of a slice of the call's own is stored anew. No program in sight. -/
import Derived.Test.YtkbnfnfjmofcmaaLib
namespace Go.Proofs.Ytkbnfnfjmofcmaa
set_option linter.unusedVariables false
set_option linter.unusedSimpArgs false
open Go.RowKit

theorem setRun_app (vs : List Value) : ∀ (cs rest : List Value) (o : Nat), o + vs.length ≤ cs.length → setRun (cs ++ rest) o vs = setRun cs o vs ++ rest := by
  induction vs with
  | nil => intro cs rest o h; rfl
  | cons v vs ih =>
    intro cs rest o h
    simp only [List.length_cons] at h
    show setRun ((cs ++ rest).set o v) (o + 1) vs = setRun (cs.set o v) (o + 1) vs ++ rest
    rw [List.set_append_left _ _ (by omega)]
    exact ih (cs.set o v) rest (o + 1) (by rw [List.length_set]; omega)
/-- The row's end. -/
theorem flat_end {size i n : Nat} (h : i < n) : i * size + size ≤ n * size := by
  have := Nat.mul_le_mul_right size (show i + 1 ≤ n by omega)
  rw [Nat.succ_mul] at this
  exact this
/-- An element is stored anew. -/
theorem Own.put {α : Type} {w : World} {base : Nat} {e : TypeId} {size : Nat} {f : α → List Value} {g n cap : Nat} {xs : List α} (hf : ∀ x, (f x).length = size) (h : Own w base e size f (.slice (some ⟨g, 0, none⟩) n cap) xs) {i : Nat} (hi : i < xs.length) (y : α) :
    Own (wset w g (i * size) (f y)) base e size f (.slice (some ⟨g, 0, none⟩) n cap) (xs.set i y) := by
  obtain ⟨h1, h2⟩ := h
  rcases h2 with ⟨h2, -⟩ | ⟨g', cap', cur, e1, hb, hh, hl, hm, hc, ht⟩
  · cases h2
  · have e2 := e1
    injection e1 with e3 e4 e5
    injection e3 with e3
    injection e3 with e3
    subst e3 e4 e5
    have hrow : RowAt w g e (xs.flatMap f ++ cur.toList.drop (xs.length * size)) := by
      unfold RowAt
      rw [← ht, List.take_append_drop]
      simpa using hh
    have hrow' := hrow.wset (f y) (i * size)
    have hfl := flat_length hf xs
    have hend := flat_end (size := size) hi
    rw [setRun_app _ _ _ _ (by rw [hfl, hf]; exact hend), flat_set hf xs i y hi] at hrow'
    have hfl' := flat_length hf (xs.set i y)
    rw [List.length_set] at hfl'
    have hcl : xs.length * size ≤ cur.toList.length := by
      have h3 := congrArg List.length ht
      rw [List.length_take, hfl] at h3
      omega
    have hsz : cur.size = cap * size := hc
    refine ⟨by rw [List.length_set, hfl'], .inr ⟨g, cap, ((xs.set i y).flatMap f ++ cur.toList.drop (xs.length * size)).toArray, by rw [List.length_set], hb, hrow', by rw [List.length_set]; exact hl, hm, ?_, ?_⟩⟩
    · rw [List.size_toArray, List.length_append, hfl', List.length_drop, ← hc]
      have : cur.toList.length = cur.size := by simp
      omega
    · simp only [List.length_set]
      rw [List.take_left' hfl']
/-- An element's cells. -/
theorem Own.at {α : Type} {w : World} {base : Nat} {e : TypeId} {size : Nat} {f : α → List Value} {A : Option Addr} {n cap : Nat} {xs : List α} (hf : ∀ x, (f x).length = size) (h : Own w base e size f (.slice A n cap) xs) {i : Nat} (hi : i < xs.length) :
    ∃ g x, A = some ⟨g, 0, none⟩ ∧ xs[i]? = some x ∧ (∀ j, j < size → w.cell? ⟨g, i * size + j, none⟩ = (f x)[j]?) ∧ (∀ j, w.frozen? ⟨g, j, none⟩ = false) ∧ g < w.heap.size := by
  rcases h.cases with ⟨-, rfl⟩ | ⟨g, cap', rest, e1, h2, h3, h4, h5⟩
  · simp at hi
  · injection e1 with e1
    have hx : xs[i]? = some xs[i] := List.getElem?_eq_getElem hi
    refine ⟨g, xs[i], e1, hx, fun j hj => ?_, h5.frozen, h5.lt⟩
    have hend := flat_end (size := size) hi
    rw [h5.cell, List.getElem?_append_left (by rw [flat_length hf]; omega)]
    exact flat_at hf xs i j hj hx
theorem Own.big {α : Type} {w : World} {base : Nat} {e : TypeId} {size : Nat} {f : α → List Value} {A : Option Addr} {n cap : Nat} {xs : List α} (h : Own w base e size f (.slice A n cap) xs) : n = xs.length ∧ n ≤ cap ∧ cap ≤ maxLen ∧ (A = none ∧ n = 0 ∧ cap = 0 ∨ ∃ g, A = some ⟨g, 0, none⟩) := by
  rcases h.cases with ⟨e1, rfl⟩ | ⟨g, cap', rest, e1, h2, h3, h4, h5⟩
  · injection e1 with e1 e2 e3
    exact ⟨e2, by omega, by rw [e3]; unfold maxLen; omega, .inl ⟨e1, e2, e3⟩⟩
  · injection e1 with e1 e2 e3
    subst e3
    exact ⟨e2, by omega, h4, .inr ⟨g, e1⟩⟩
end Go.Proofs.Ytkbnfnfjmofcmaa
