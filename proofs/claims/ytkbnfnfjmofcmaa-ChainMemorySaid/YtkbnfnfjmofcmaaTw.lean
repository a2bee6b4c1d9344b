/- Two stores side by side; what a store holds in all. -/
import Derived.Test.YtkbnfnfjmofcmaaFi
import Derived.Test.YtkbnfnfjmofcmaaPr
namespace Go.Proofs.Ytkbnfnfjmofcmaa
set_option linter.unusedVariables false
set_option linter.unusedSimpArgs false
open Go.RowKit

theorem sum_perm {a b : List ByteArray} (h : a.Perm b) (g : ByteArray → Nat) : (a.map g).sum = (b.map g).sum := (h.map g).sum_nat
theorem Total.unique {st : ByteArray → List Ver} {c : Nat} (h : Total st c) {ks : List ByteArray} (hn : ks.Nodup) (hm : ∀ k, st k ≠ [] ↔ k ∈ ks) : (ks.map fun k => (st k).length).sum = c := by
  obtain ⟨ks', hn', hm', hs⟩ := h
  rw [← hs]
  refine sum_perm ?_ _
  refine (List.perm_ext_iff_of_nodup hn hn').2 fun k => ?_
  rw [← hm k, ← hm' k]
theorem Total.nil : Total (fun _ => []) 0 := ⟨[], List.nodup_nil, fun k => by simp, rfl⟩
theorem Total.install {st : ByteArray → List Ver} {c : Nat} (h : Total st c) (k : ByteArray) (v : Ver) : Total (upd st k (st k ++ [v])) (c + 1) := by
  obtain ⟨ks, hn, hm, hs⟩ := h
  have hne : ∀ k', upd st k (st k ++ [v]) k' ≠ [] ↔ (k' = k ∨ st k' ≠ []) := by
    intro k'
    unfold upd
    by_cases e : k' = k
    · rw [if_pos e]; simp [e]
    · rw [if_neg e]; simp [e]
  have hold : ∀ l : List ByteArray, k ∉ l → (l.map fun k' => (upd st k (st k ++ [v]) k').length).sum = (l.map fun k' => (st k').length).sum := by
    intro l hl
    congr 1
    refine List.map_congr_left fun k' hk' => ?_
    unfold upd
    rw [if_neg (fun e => hl (by rw [← e]; exact hk'))]
  have hself : (upd st k (st k ++ [v]) k).length = (st k).length + 1 := by unfold upd; rw [if_pos rfl]; simp
  by_cases hk : k ∈ ks
  · refine ⟨ks, hn, fun k' => ?_, ?_⟩
    · rw [hne, ← hm]
      constructor
      · rintro (rfl | h)
        · exact (hm _).2 hk
        · exact h
      · exact .inr
    · obtain ⟨l1, l2, rfl⟩ := List.append_of_mem hk
      rw [List.nodup_append] at hn
      have h1 : k ∉ l1 := fun hh => hn.2.2 _ hh _ (List.mem_cons_self) rfl
      have h2 : k ∉ l2 := (List.nodup_cons.1 hn.2.1).1
      rw [List.map_append, List.sum_append, List.map_cons, List.sum_cons, hold l1 h1, hold l2 h2, hself]
      rw [List.map_append, List.sum_append, List.map_cons, List.sum_cons] at hs
      omega
  · have hk0 : st k = [] := by
      cases e : st k with
      | nil => rfl
      | cons a l => exact absurd ((hm k).1 (by rw [e]; simp)) hk
    refine ⟨k :: ks, List.nodup_cons.2 ⟨hk, hn⟩, fun k' => ?_, ?_⟩
    · rw [hne, List.mem_cons, ← hm]
    · rw [List.map_cons, List.sum_cons, hold ks hk, hself, hk0, hs]
      simp
      omega
def prnS (t : Int) (st : ByteArray → List Ver) : ByteArray → List Ver := fun k => prn t (st k)
/-- What a store is: rising chains, and their number in all. -/
structure Good (s : Store) : Prop where
  inc : ∀ k, Inc (s.2 k)
  total : Total s.2 s.1
theorem Good.nil : Good (0, fun _ => []) := ⟨fun _ => List.Pairwise.nil, Total.nil⟩
theorem Good.play {s : Store} (h : Good s) (k : ByteArray) (v : Ver) : Good (play1 s k v) := by
  refine ⟨play1_inc h.inc k v, ?_⟩
  unfold play1
  split
  · exact h.total.install k v
  · exact h.total
theorem prn_inc {l : List Ver} (h : Inc l) (t : Int) : Inc (prn t l) := by
  unfold prn
  split
  · exact List.Pairwise.sublist (List.drop_sublist _ _) h
  · exact h
theorem fillF_good (xs : List Op) : Good (fillF xs) := by
  have : ∀ (xs : List Op) (s : Store), Good s → Good (xs.foldl (fun s o => if o.kind = 1 then play1 s o.key o.v else s) s) := by
    intro xs
    induction xs with
    | nil => intro s h; exact h
    | cons o xs ih =>
      intro s h
      rw [List.foldl_cons]
      refine ih _ ?_
      split
      · exact h.play _ _
      · exact h
  exact this xs _ Good.nil

/-- Two stores that share nothing. -/
def Two (B : Nat) (w : World) (p1 p2 N1 N2 : Nat) (s1 s2 : Store) : Prop := ∃ F1 F2, SAt F1 w p1 s1.1 N1 s1.2 ∧ SAt F2 w p2 s2.1 N2 s2.2 ∧ (∀ i, F1 i → ¬ F2 i) ∧ (∀ i, F1 i → B ≤ i) ∧ ∀ i, F2 i → B ≤ i
theorem Two.swap {B : Nat} {w : World} {p1 p2 N1 N2 : Nat} {s1 s2 : Store} (h : Two B w p1 p2 N1 N2 s1 s2) : Two B w p2 p1 N2 N1 s2 s1 := by
  obtain ⟨F1, F2, h1, h2, h3, h4, h5⟩ := h
  exact ⟨F2, F1, h2, h1, fun i a b => h3 i b a, h5, h4⟩
theorem Two.below {B : Nat} {w w' : World} {p1 p2 N1 N2 : Nat} {s1 s2 : Store} (h : Two B w p1 p2 N1 N2 s1 s2) (hb : Below w.heap.size w w') : Two B w' p1 p2 N1 N2 s1 s2 := by
  obtain ⟨F1, F2, h1, h2, h3⟩ := h
  exact ⟨F1, F2, h1.below hb, h2.below hb, h3⟩
theorem Two.mono {B : Nat} {w : World} {p1 p2 N1 N2 N1' N2' : Nat} {s1 s2 : Store} (h : Two B w p1 p2 N1 N2 s1 s2) (hN1 : N1 ≤ N1') (hN2 : N2 ≤ N2') : Two B w p1 p2 N1' N2' s1 s2 := by
  obtain ⟨F1, F2, h1, h2, h3⟩ := h
  exact ⟨F1, F2, h1.mono hN1, h2.mono hN2, h3⟩
theorem SAt.flt {F : Nat → Prop} {w : World} {p cnt N : Nat} {st : ByteArray → List Ver} (h : SAt F w p cnt N st) : ∀ i, F i → i < w.heap.size := by
  obtain ⟨_, _, _, _, _, _, _, _, h6, _⟩ := h
  exact h6
theorem Two.step {B : Nat} {w w' : World} {p1 p2 N1 N2 : Nat} {s1' s2 : Store} {F1 F2 F' : Nat → Prop} (h2 : SAt F2 w p2 s2.1 N2 s2.2) (h3 : ∀ i, F1 i → ¬ F2 i) (h4 : ∀ i, F1 i → B ≤ i) (h5 : ∀ i, F2 i → B ≤ i) (hB : B ≤ w.heap.size)
    (a1 : SAt F' w' p1 s1'.1 N1 s1'.2) (a2 : ∀ i, F' i → F1 i ∨ w.heap.size ≤ i) (a3 : Turn F1 w w') : Two B w' p1 p2 N1 N2 s1' s2 ∧ Below B w w' := by
  refine ⟨⟨F', F2, a1, (h2.turn a3 fun i hi hh => h3 i hh hi), fun i hi hh => ?_, fun i hi => ?_, h5⟩, a3.below hB fun i hi hF => ?_⟩
  · rcases a2 i hi with h | h
    · exact h3 i h hh
    · have := h2.flt i hh
      omega
  · rcases a2 i hi with h | h
    · exact h4 i h
    · omega
  · have := h4 i hF
    omega
theorem install_two (B p1 p2 N N2 : Nat) (s1 s2 : Store) (k : ByteArray) (v : Ver) (w : World) (h : Two B w p1 p2 N N2 s1 s2) (hB : B ≤ w.heap.size) (hk : k.size ≤ maxLen) (hN : N < 3000000000000) :
    Calls Try.prog 15 #[.pointer (some ⟨p1, 0, none⟩), .string k, .agg #[.int .i64 v.commit, .int .i64 v.writer, .bool v.found, .string v.value]] w fun e w' => e = .returned (.int .i64 (refuse k v (s1.2 k))) ∧ Two B w' p1 p2 (N + 1) N2 (play1 s1 k v) s2 ∧ Below B w w' := by
  obtain ⟨F1, F2, h1, h2, h3, h4, h5⟩ := h
  refine (install_play F1 p1 N s1 k v w h1 hk hN).mono fun e w' ⟨he, F', a1, a2, a3⟩ => ⟨he, Two.step h2 h3 h4 h5 hB a1 a2 a3⟩
/-- The same over a fresh row, which stands. -/
theorem install_twoC (B p1 p2 N N2 : Nat) (s1 s2 : Store) (k : ByteArray) (v : Ver) (wr : World) (T : TypeId) (cs : List Value) (h : Two B wr p1 p2 N N2 s1 s2) (hB : B ≤ wr.heap.size) (hk : k.size ≤ maxLen) (hN : N < 3000000000000) :
    Calls Try.prog 15 #[.pointer (some ⟨p1, 0, none⟩), .string k, .agg #[.int .i64 v.commit, .int .i64 v.writer, .bool v.found, .string v.value]] (wr.alloc (.cells cs.toArray T)) fun e w' => e = .returned (.int .i64 (refuse k v (s1.2 k))) ∧ Two B w' p1 p2 (N + 1) N2 (play1 s1 k v) s2 ∧ Below B (wr.alloc (.cells cs.toArray T)) w' ∧ RowAt w' wr.heap.size T cs := by
  obtain ⟨F1, F2, h1, h2, h3, h4, h5⟩ := h
  have hba := (Below.refl wr.heap.size wr).alloc (Nat.le_refl _) (.cells cs.toArray T)
  refine (install_play F1 p1 N s1 k v _ (h1.below hba) hk hN).mono fun e w' ⟨he, F', a1, a2, a3⟩ => ?_
  obtain ⟨q1, q2⟩ := Two.step (h2.below hba) h3 h4 h5 (Nat.le_trans hB hba.size) a1 a2 a3
  exact ⟨he, q1, q2, (RowAt.new wr T cs).turn a3 fun hh => by have := h1.flt _ hh; omega⟩
theorem prune_two (B p1 p2 N N2 : Nat) (s1 s2 : Store) (t : Int) (w : World) (h : Two B w p1 p2 N N2 s1 s2) (hB : B ≤ w.heap.size) (hN : N < 3000000000000) (hg : Good s1) :
    Calls Try.prog 16 #[.pointer (some ⟨p1, 0, none⟩), .int .i64 t] w fun e w' => ∃ G : Nat, e = .returned (.int .i64 G) ∧ G ≤ s1.1 ∧ Good (s1.1 - G, prnS t s1.2) ∧ Two B w' p1 p2 N N2 (s1.1 - G, prnS t s1.2) s2 ∧ Below B w w' := by
  obtain ⟨F1, F2, h1, h2, h3, h4, h5⟩ := h
  refine (prune_any F1 p1 s1.1 N t s1.2 w h1 hN (fun k => (hg.inc k).rising) hg.total).mono fun e w' ⟨G, he, hG, hT, ⟨F', a1, a2⟩, a3⟩ => ?_
  obtain ⟨q1, q2⟩ := Two.step (s1' := (s1.1 - G, prnS t s1.2)) h2 h3 h4 h5 hB a1 a2 a3
  exact ⟨G, he, hG, ⟨fun k => prn_inc (hg.inc k) t, hT⟩, q1, q2⟩
theorem chain_two (B p1 p2 N N2 : Nat) (s1 s2 : Store) (k : ByteArray) (w : World) (h : Two B w p1 p2 N N2 s1 s2) (hk : k.size ≤ maxLen) (hN : N < 3000000000000) :
    Calls Try.prog 13 #[.pointer (some ⟨p1, 0, none⟩), .string k] w fun e w' => ∃ v, e = .returned v ∧ Own w' w.heap.size 27 4 Ver.cells v (s1.2 k) ∧ Below w.heap.size w w' := by
  obtain ⟨F1, F2, h1, h2, h3, h4, h5⟩ := h
  exact chain_any F1 p1 s1.1 N s1.2 k w h1 hk hN
theorem count_two (B p1 p2 N N2 : Nat) (s1 s2 : Store) (w : World) (h : Two B w p1 p2 N N2 s1 s2) : Calls Try.prog 17 #[.pointer (some ⟨p1, 0, none⟩)] w fun e w' => e = .returned (.int .i64 s1.1) ∧ w = w' := by
  obtain ⟨F1, F2, h1, h2, h3, h4, h5⟩ := h
  exact count_any F1 p1 s1.1 N s1.2 w h1

end Go.Proofs.Ytkbnfnfjmofcmaa
