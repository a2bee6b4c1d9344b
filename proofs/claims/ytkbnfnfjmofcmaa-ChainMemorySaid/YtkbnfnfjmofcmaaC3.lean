/- A store of chains in memory. -/
import Derived.Test.YtkbnfnfjmofcmaaC2
import Derived.Test.YtkbnfnfjmofcmaaMp
import Derived.Maps.AppendAt
namespace Go.Proofs.Ytkbnfnfjmofcmaa
set_option linter.unusedVariables false
set_option linter.unusedSimpArgs false
open Go.RowKit

theorem key_law : Maps.Keyed Try.prog 9 := Maps.string_keyed Try.underlying9
theorem zero_list (w : World) : (zeroValue 57).run Try.prog w = .ok (.slice none 0 0) w := by kernel_rfl
abbrev VOwn (w : World) (v : Value) (l : List Ver) : Prop := Own w 0 27 4 Ver.cells v l
theorem VOwn.vers {w : World} {v : Value} {l : List Ver} (h : VOwn w v l) : VersAt w v l := by
  rcases h.cases with h | ⟨g, cap, rest, h1, h2, h3, h4, h5⟩
  · exact .inl h
  · exact .inr ⟨g, cap, rest, h1, h3, h4, h5⟩
/-- What the map holds of a key: the value of its chain, which lies in blocks of F. -/
structure Held (F : Nat → Prop) (w : World) (f : ByteArray → Option Value) (st : ByteArray → List Ver) : Prop where
  no : ∀ k, f k = none → st k = []
  yes : ∀ k v, f k = some v → VOwn w v (st k) ∧ st k ≠ [] ∧ ∀ g, v.ownBlock = some g → F g
  apart : ∀ k k' v v' g, k ≠ k' → f k = some v → f k' = some v' → v.ownBlock = some g → v'.ownBlock ≠ some g
theorem Held.own {F : Nat → Prop} {w : World} {f : ByteArray → Option Value} {st : ByteArray → List Ver} (h : Held F w f st) (k : ByteArray) : VOwn w ((f k).getD (.slice none 0 0)) (st k) := by
  cases e : f k with
  | none => rw [h.no k e]; exact Own.nil _ _ _ _ _
  | some v => exact (h.yes k v e).1
theorem Held.block {F : Nat → Prop} {w : World} {f : ByteArray → Option Value} {st : ByteArray → List Ver} (h : Held F w f st) (k : ByteArray) (g : Nat) (hg : ((f k).getD (.slice none 0 0)).ownBlock = some g) : F g := by
  cases e : f k with
  | none => rw [e] at hg; simp [Value.ownBlock] at hg
  | some v => rw [e] at hg; exact (h.yes k v e).2.2 g hg
/-- Block p is a store: its versions are st, all it owns lies in F; N bounds what was ever installed. -/
def SAt (F : Nat → Prop) (w : World) (p cnt N : Nat) (st : ByteArray → List Ver) : Prop :=
  ∃ b n f, RowAt w p 60 [.map (some b), .int .i64 cnt] ∧ MAt Try.prog 9 w b n f ∧ Held F w f st ∧ F p ∧ F b ∧ (∀ i, F i → i < w.heap.size) ∧ n ≤ N ∧ cnt ≤ N ∧ ∀ k, (st k).length ≤ N
theorem Held.turn {F S : Nat → Prop} {w w' : World} {f : ByteArray → Option Value} {st : ByteArray → List Ver} (h : Held F w f st) (ht : Turn S w w') (hd : ∀ i, F i → ¬ S i) : Held F w' f st :=
  ⟨h.no, fun k v e => ⟨(h.yes k v e).1.turn ht fun g hg => hd g ((h.yes k v e).2.2 g hg), (h.yes k v e).2⟩, h.apart⟩
theorem SAt.turn {F S : Nat → Prop} {w w' : World} {p cnt N : Nat} {st : ByteArray → List Ver} (h : SAt F w p cnt N st) (ht : Turn S w w') (hd : ∀ i, F i → ¬ S i) : SAt F w' p cnt N st := by
  obtain ⟨b, n, f, h1, h2, h3, h4, h5, h6, h7⟩ := h
  exact ⟨b, n, f, h1.turn ht (hd _ h4), h2.turn ht (hd _ h5), h3.turn ht hd, h4, h5, fun i hi => Nat.lt_of_lt_of_le (h6 i hi) ht.size, h7⟩
theorem SAt.below {F : Nat → Prop} {w w' : World} {p cnt N : Nat} {st : ByteArray → List Ver} (h : SAt F w p cnt N st) (hb : Below w.heap.size w w') : SAt F w' p cnt N st :=
  h.turn (Turn.of_below hb fun _ => False) fun _ _ => id
theorem SAt.lt {F : Nat → Prop} {w : World} {p cnt N : Nat} {st : ByteArray → List Ver} (h : SAt F w p cnt N st) : p < w.heap.size := by
  obtain ⟨b, n, f, h1, -⟩ := h
  exact h1.lt
theorem SAt.mono {F : Nat → Prop} {w : World} {p cnt N N' : Nat} {st : ByteArray → List Ver} (h : SAt F w p cnt N st) (hN : N ≤ N') : SAt F w p cnt N' st := by
  obtain ⟨b, n, f, h1, h2, h3, h4, h5, h6, h7, h8, h9⟩ := h
  exact ⟨b, n, f, h1, h2, h3, h4, h5, h6, by omega, by omega, fun k => Nat.le_trans (h9 k) hN⟩

theorem MAt.ne {w : World} {b n g : Nat} {f : ByteArray → Option Value} {T : TypeId} {cs : List Value} (h : MAt Try.prog 9 w b n f) (hr : RowAt w g T cs) : g ≠ b := by
  rintro rfl
  obtain ⟨D, ⟨es, clock, hb, -⟩, -⟩ := h
  unfold RowAt at hr
  rw [hr] at hb
  injection hb with hb
  cases hb
theorem VOwn.ne {w : World} {b n : Nat} {f : ByteArray → Option Value} {v : Value} {l : List Ver} (h : MAt Try.prog 9 w b n f) (ho : VOwn w v l) (g : Nat) (hg : v.ownBlock = some g) : g ≠ b := by
  rcases ho.cases with ⟨rfl, -⟩ | ⟨g', cap, rest, rfl, -, -, -, hr⟩
  · simp [Value.ownBlock] at hg
  · have e : g' = g := by simpa [Value.ownBlock] using hg
    subst e
    exact h.ne hr
def upd (st : ByteArray → List Ver) (k : ByteArray) (l : List Ver) : ByteArray → List Ver := fun k' => if k' = k then l else st k'
/-- One key's chain is put anew. -/
theorem Held.put {F : Nat → Prop} {w w' : World} {f : ByteArray → Option Value} {st : ByteArray → List Ver} {k : ByteArray} {v' : Value} {l' : List Ver} {X : Nat → Prop} (H : Held F w f st) (hX : ∀ k v g, f k = some v → v.ownBlock = some g → ¬ X g)
    (ht : Turn (fun i => X i ∨ ((f k).getD (.slice none 0 0)).ownBlock = some i) w w') (ho : VOwn w' v' l') (hne : l' ≠ []) (hloc : ∀ g, v'.ownBlock = some g → ((f k).getD (.slice none 0 0)).ownBlock = some g ∨ w.heap.size ≤ g) (hlt : ∀ i, F i → i < w.heap.size) :
    Held (fun i => F i ∨ (w.heap.size ≤ i ∧ i < w'.heap.size)) w' (fun k' => if k' = k then some v' else f k') (upd st k l') := by
  have old : ∀ k2 v2 g, k2 ≠ k → f k2 = some v2 → v2.ownBlock = some g → ((f k).getD (.slice none 0 0)).ownBlock ≠ some g := by
    intro k2 v2 g h2 e2 hg hh
    cases e : f k with
    | none => rw [e] at hh; simp [Value.ownBlock] at hh
    | some v1 =>
      rw [e] at hh
      exact H.apart k k2 v1 v2 g (Ne.symm h2) e e2 hh hg
  have apart1 : ∀ k2 v2 g, k2 ≠ k → f k2 = some v2 → v'.ownBlock = some g → v2.ownBlock ≠ some g := by
    intro k2 v2 g h2 e2 hg hg2
    rcases hloc g hg with h | h
    · exact old k2 v2 g h2 e2 hg2 h
    · have := hlt g ((H.yes k2 v2 e2).2.2 g hg2)
      omega
  refine ⟨fun k2 e => ?_, fun k2 v2 e => ?_, fun k1 k2 v1 v2 g hn e1 e2 hg => ?_⟩
  · by_cases h2 : k2 = k
    · rw [if_pos h2] at e; cases e
    · rw [if_neg h2] at e
      unfold upd
      rw [if_neg h2]
      exact H.no k2 e
  · by_cases h2 : k2 = k
    · rw [if_pos h2] at e
      cases e
      unfold upd
      rw [if_pos h2]
      refine ⟨ho, hne, fun g hg => ?_⟩
      rcases hloc g hg with h | h
      · exact .inl (H.block k g h)
      · exact .inr ⟨h, (ho.base g hg).2⟩
    · rw [if_neg h2] at e
      unfold upd
      rw [if_neg h2]
      obtain ⟨a1, a2, a3⟩ := H.yes k2 v2 e
      exact ⟨a1.turn ht fun g hg hh => by
        rcases hh with hh | hh
        · exact hX k2 v2 g e hg hh
        · exact old k2 v2 g h2 e hg hh, a2, fun g hg => .inl (a3 g hg)⟩
  · by_cases h1 : k1 = k
    · rw [if_pos h1] at e1
      cases e1
      rw [if_neg (fun h => hn (h1.trans h.symm))] at e2
      exact apart1 k2 v2 g (fun h => hn (h1.trans h.symm)) e2 hg
    · rw [if_neg h1] at e1
      by_cases h2 : k2 = k
      · rw [if_pos h2] at e2
        cases e2
        exact fun hh => apart1 k1 v1 g h1 e1 hh hg
      · rw [if_neg h2] at e2
        exact H.apart k1 k2 v1 v2 g hn e1 e2 hg

/-- New: a store of nothing. -/
theorem new_any (w : World) : Calls Try.prog 14 #[] w fun e w' => ∃ p, e = .returned (.pointer (some ⟨p, 0, none⟩)) ∧ SAt (fun i => w.heap.size ≤ i ∧ i < w'.heap.size) w' p 0 0 (fun _ => []) ∧ Below w.heap.size w w' := by
  have hmm := @run_makeMap Try.prog
  go_enter Try.func14, Try.ntmps14
  go_wp2
  go_ret
  refine ⟨w.heap.size + 1, rfl, ⟨w.heap.size, 0, fun _ => none, RowAt.new' (w.alloc (.map #[] 0)) (w.heap.size + 1) 60 [.map (some w.heap.size), .int .i64 0] (by simp), ?_, ⟨fun _ _ => rfl, (fun k v e => by cases e), (fun k k' v v' g _ e => by cases e)⟩, ⟨by omega, by simp⟩, ⟨by omega, by simp; omega⟩, fun i hi => hi.2, Nat.le_refl _, Nat.le_refl _, fun _ => Nat.zero_le _⟩, ((Below.refl _ _).alloc (Nat.le_refl _) _).alloc (by simp) _⟩
  exact (MAt.new Try.prog 9 w).turn (S := fun _ => False) ((Turn.refl _ _).alloc _) id

end Go.Proofs.Ytkbnfnfjmofcmaa
