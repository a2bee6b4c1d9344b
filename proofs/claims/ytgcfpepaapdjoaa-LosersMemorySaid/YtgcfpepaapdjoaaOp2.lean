/- More on arguments that came in: strings with their bound, nil slices, a whole slice handed to an append. No program in sight. -/
import Derived.Test.YtgcfpepaapdjoaaOpen
import Derived.Test.YtgcfpepaapdjoaaApp
namespace Go.Proofs.Ytgcfpepaapdjoaa
set_option linter.unusedVariables false
set_option linter.unusedSimpArgs false
open Go.RowKit Go.ChangeShapes Go.WideShapes Go.Deep

structure okStr (s : ByteArray) : Prop where
  le : s.size ≤ maxLen
theorem flat_key {P : Program} {t : TypeId} (ht : P.underlying t = some .string) : Flat P t cellS okStr := by
  intro H enc w base spare held fuel cs x h
  obtain ⟨s, rfl, -, hs⟩ := DataW.trod_string ht h
  exact ⟨s, rfl, ⟨hs⟩⟩
theorem open_none {P : Program} {t e : TypeId} (ht : P.underlying t = some (.slice e)) {H : Type} {enc : TypeId × Value → H} {w : World} {base : Nat} {spare : Nat → Bool} {held : Bool} {A : Option Addr} {len cap : Nat} {d : DataW H} {ps : List MemPlace}
    (h : DataW.Trod enc P w base spare held t (.slice A len cap) d ps) : A = none → cap = 0 := by
  rintro rfl
  obtain ⟨fuel, h⟩ := h
  rcases open_slice ht h with ⟨hcs, hx⟩ | ⟨a, l, c, m, n, D, Pl, hcs, hb, hl, hm, hmm, hx, hi⟩
  · simp [Value.cells] at hcs
    exact hcs.2
  · simp [Value.cells] at hcs
/-- A slice that came in, as an append reads it. -/
theorem SliceRd.read {α : Type} {w : World} {A : Option Addr} {n cap : Nat} {f : α → List Value} {xs : List α} (h : SliceRd w A n f xs) (hf : ∀ x, (f x).length = n) (hz : A = none → cap = 0) : ReadAt w f (.slice A xs.length cap) xs := by
  rcases h with rfl | ⟨b, off, rfl, hb, hc⟩
  · cases A with
    | none => exact .inl ⟨by rw [hz rfl]; rfl, rfl⟩
    | some a =>
      exact .inr ⟨a, cap, rfl, fun j u hj => by simp at hj⟩
  · refine .inr ⟨⟨b, off, none⟩, cap, rfl, fun j u hj => ?_⟩
    rw [add_off]
    have hl : j < xs.length * n := by have := (List.getElem?_eq_some_iff.1 hj).1; rwa [flat_length hf] at this
    have hn : 0 < n := by rcases Nat.eq_zero_or_pos n with h | h; (subst h; omega); exact h
    have hq : j / n * n + j % n = j := by rw [Nat.mul_comm]; exact Nat.div_add_mod j n
    have hi : j / n < xs.length := Nat.div_lt_of_lt_mul (by rw [Nat.mul_comm]; exact hl)
    have h1 := flat_at hf xs (j / n) (j % n) (Nat.mod_lt _ hn) (List.getElem?_eq_getElem hi)
    rw [hq, hj] at h1
    have h2 := hc (j / n) xs[j / n] (List.getElem?_eq_getElem hi) (j % n) (Nat.mod_lt _ hn)
    rw [Nat.add_assoc, hq, ← h1] at h2
    exact h2

end Go.Proofs.Ytgcfpepaapdjoaa
