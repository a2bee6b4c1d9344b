/- A binary heap in plain terms: pushing, popping, and that popping all gives the items in order. No program in sight. -/
import Derived.Test.YtmmfobbalhpomaaLib
namespace Go.Proofs.Ytmmfobbalhpomaa
set_option linter.unusedVariables false
set_option linter.unusedSimpArgs false

structure Tot {α : Type} (lt : α → α → Bool) : Prop where
  asym : ∀ a b, lt a b = true → lt b a = false
  trans : ∀ a b c, lt b a = false → lt c b = false → lt c a = false
section
variable {α : Type} (d : α) (lt : α → α → Bool)
theorem Tot.refl {lt : α → α → Bool} (h : Tot lt) (a : α) : lt a a = false := by
  cases e : lt a a with
  | false => rfl
  | true => rw [h.asym a a e] at e; cases e
def gt (xs : List α) (i : Nat) : α := xs.getD i d
def swp (xs : List α) (i j : Nat) : List α := (xs.set i (gt d xs j)).set j (gt d xs i)
theorem gt_some {xs : List α} {i : Nat} (h : i < xs.length) : xs[i]? = some (gt d xs i) := by
  unfold gt
  rw [List.getD_eq_getElem?_getD, List.getElem?_eq_getElem h]
  rfl
theorem gt_get {xs : List α} {i : Nat} (h : i < xs.length) : gt d xs i = xs[i] := by
  have := gt_some d h
  rw [List.getElem?_eq_getElem h] at this
  exact (Option.some.inj this).symm
theorem gt_mem {xs : List α} {i : Nat} (h : i < xs.length) : gt d xs i ∈ xs := by
  rw [gt_get d h]
  exact List.getElem_mem h
theorem gt_ext {xs ys : List α} (hl : xs.length = ys.length) (h : ∀ i, i < xs.length → gt d xs i = gt d ys i) : xs = ys := by
  apply List.ext_getElem?
  intro i
  by_cases hi : i < xs.length
  · rw [gt_some d hi, gt_some d (hl ▸ hi), h i hi]
  · rw [List.getElem?_eq_none (by omega), List.getElem?_eq_none (by omega)]
theorem swp_length (xs : List α) (i j : Nat) : (swp d xs i j).length = xs.length := by simp [swp]
theorem gt_swp {xs : List α} {i j : Nat} (hi : i < xs.length) (hj : j < xs.length) (k : Nat) : gt d (swp d xs i j) k = if k = j then gt d xs i else if k = i then gt d xs j else gt d xs k := by
  unfold gt swp
  rw [List.getD_eq_getElem?_getD, List.getElem?_set, List.length_set]
  by_cases e : k = j
  · subst e
    rw [if_pos rfl, if_pos rfl, if_pos hj]
    rfl
  · rw [if_neg (fun h => e h.symm), if_neg e, List.getElem?_set]
    by_cases e2 : k = i
    · subst e2
      rw [if_pos rfl, if_pos rfl, if_pos hi]
      rfl
    · rw [if_neg (fun h => e2 h.symm), if_neg e2, List.getD_eq_getElem?_getD]
theorem swp_perm {xs : List α} {i j : Nat} (hi : i < xs.length) (hj : j < xs.length) : (swp d xs i j).Perm xs := by
  unfold swp
  rw [gt_get d hi, gt_get d hj]
  exact List.set_set_perm hi hj
def up : Nat → List α → Nat → List α
  | 0, xs, _ => xs
  | m + 1, xs, i => if i = 0 then xs else if lt (gt d xs i) (gt d xs ((i - 1) / 2)) = true then up m (swp d xs i ((i - 1) / 2)) ((i - 1) / 2) else xs
def kid (xs : List α) (i : Nat) : Nat := if 2 * i + 2 < xs.length ∧ lt (gt d xs (2 * i + 2)) (gt d xs (2 * i + 1)) = true then 2 * i + 2 else 2 * i + 1
def down : Nat → List α → Nat → List α
  | 0, xs, _ => xs
  | m + 1, xs, i => if xs.length ≤ 2 * i + 1 then xs else if lt (gt d xs (kid d lt xs i)) (gt d xs i) = true then down m (swp d xs i (kid d lt xs i)) (kid d lt xs i) else xs
def IsHeap (xs : List α) : Prop := ∀ j, 0 < j → j < xs.length → lt (gt d xs j) (gt d xs ((j - 1) / 2)) = false
structure UpEx (xs : List α) (i : Nat) : Prop where
  own : ∀ j, 0 < j → j < xs.length → j ≠ i → lt (gt d xs j) (gt d xs ((j - 1) / 2)) = false
  kid : ∀ j, 0 < j → j < xs.length → (j - 1) / 2 = i → 0 < i → lt (gt d xs j) (gt d xs ((i - 1) / 2)) = false
structure DnEx (xs : List α) (i : Nat) : Prop where
  own : ∀ j, 0 < j → j < xs.length → (j - 1) / 2 ≠ i → lt (gt d xs j) (gt d xs ((j - 1) / 2)) = false
  kid : ∀ j, 0 < j → j < xs.length → (j - 1) / 2 = i → 0 < i → lt (gt d xs j) (gt d xs ((i - 1) / 2)) = false
variable {lt} {d}
theorem up_perm : ∀ (m : Nat) (xs : List α) (i : Nat), i < xs.length → (up d lt m xs i).Perm xs := by
  intro m
  induction m with
  | zero => intro xs i _; exact List.Perm.refl _
  | succ m ih =>
    intro xs i hi
    rw [up]
    split
    · exact List.Perm.refl _
    · split
      · exact (ih _ _ (by rw [swp_length]; omega)).trans (swp_perm d hi (by omega))
      · exact List.Perm.refl _
theorem up_heap (ht : Tot lt) : ∀ (m : Nat) (xs : List α) (i : Nat), i < xs.length → i ≤ m → UpEx d lt xs i → IsHeap d lt (up d lt m xs i) := by
  intro m
  induction m with
  | zero =>
    intro xs i hi hm h j h0 hj
    exact h.own j h0 hj (by omega)
  | succ m ih =>
    intro xs i hi hm h
    rw [up]
    split
    · intro j h0 hj
      exact h.own j h0 hj (by omega)
    · rename_i hi0
      have hp : (i - 1) / 2 < i := by omega
      have hpl : (i - 1) / 2 < xs.length := by omega
      split
      · rename_i hlt
        have hle := ht.asym _ _ hlt
        refine ih _ _ (by rw [swp_length]; omega) (by omega) ⟨?_, ?_⟩
        · intro j h0 hj hne
          rw [swp_length] at hj
          rw [gt_swp d hi hpl, gt_swp d hi hpl]
          rw [if_neg hne]
          by_cases e1 : j = i
          · subst e1
            rw [if_pos rfl, if_pos rfl]
            exact hle
          · rw [if_neg e1]
            by_cases e2 : (j - 1) / 2 = (i - 1) / 2
            · rw [if_pos e2]
              have := h.own j h0 hj e1
              rw [e2] at this
              exact ht.trans _ _ _ hle this
            · rw [if_neg e2]
              by_cases e3 : (j - 1) / 2 = i
              · rw [if_pos e3]
                exact h.kid j h0 hj e3 (by omega)
              · rw [if_neg e3]
                exact h.own j h0 hj e1
        · intro j h0 hj hjp hp0
          rw [swp_length] at hj
          rw [gt_swp d hi hpl, gt_swp d hi hpl]
          rw [if_neg (show ¬ ((i - 1) / 2 - 1) / 2 = (i - 1) / 2 by omega), if_neg (show ¬ ((i - 1) / 2 - 1) / 2 = i by omega)]
          have hpp := h.own ((i - 1) / 2) hp0 hpl (by omega)
          rw [if_neg (show ¬ j = (i - 1) / 2 by omega)]
          by_cases e1 : j = i
          · rw [if_pos e1]
            exact hpp
          · rw [if_neg e1]
            have := h.own j h0 hj e1
            rw [hjp] at this
            exact ht.trans _ _ _ hpp this
      · rename_i hlt
        intro j h0 hj
        by_cases e : j = i
        · subst e
          simpa using hlt
        · exact h.own j h0 hj e
theorem kid_lt {xs : List α} {i : Nat} (h : 2 * i + 1 < xs.length) : kid d lt xs i < xs.length ∧ (kid d lt xs i - 1) / 2 = i ∧ i < kid d lt xs i := by
  unfold kid
  split <;> omega
theorem kid_le (ht : Tot lt) {xs : List α} {i j : Nat} (hj : j < xs.length) (h0 : 0 < j) (hp : (j - 1) / 2 = i) : lt (gt d xs j) (gt d xs (kid d lt xs i)) = false := by
  unfold kid
  have : j = 2 * i + 1 ∨ j = 2 * i + 2 := by omega
  split
  · rename_i hc
    rcases this with rfl | rfl
    · exact ht.asym _ _ hc.2
    · exact ht.refl _
  · rename_i hc
    rcases this with rfl | rfl
    · exact ht.refl _
    · by_cases e : lt (gt d xs (2 * i + 2)) (gt d xs (2 * i + 1)) = true
      · exact absurd ⟨hj, e⟩ hc
      · simpa using e
theorem down_perm : ∀ (m : Nat) (xs : List α) (i : Nat), i < xs.length → (down d lt m xs i).Perm xs := by
  intro m
  induction m with
  | zero => intro xs i _; exact List.Perm.refl _
  | succ m ih =>
    intro xs i hi
    rw [down]
    split
    · exact List.Perm.refl _
    · have hk := kid_lt (d := d) (lt := lt) (xs := xs) (i := i) (by omega)
      split
      · exact (ih _ _ (by rw [swp_length]; exact hk.1)).trans (swp_perm d hi hk.1)
      · exact List.Perm.refl _
theorem down_heap (ht : Tot lt) : ∀ (m : Nat) (xs : List α) (i : Nat), xs.length ≤ i + m → DnEx d lt xs i → IsHeap d lt (down d lt m xs i) := by
  intro m
  induction m with
  | zero =>
    intro xs i hm h j h0 hj
    have hj' : j < xs.length := hj
    exact h.own j h0 hj' (by omega)
  | succ m ih =>
    intro xs i hm h
    rw [down]
    split
    · intro j h0 hj
      exact h.own j h0 hj (by omega)
    · have hi : i < xs.length := by omega
      obtain ⟨k1, k2, k3⟩ := kid_lt (d := d) (lt := lt) (xs := xs) (i := i) (by omega)
      have kl : ∀ j, j < xs.length → 0 < j → (j - 1) / 2 = i → lt (gt d xs j) (gt d xs (kid d lt xs i)) = false := fun j a b c => kid_le ht a b c
      generalize kid d lt xs i = k at k1 k2 k3 kl ⊢
      split
      · rename_i hlt
        have hle := ht.asym _ _ hlt
        refine ih _ _ (by rw [swp_length]; omega) ⟨?_, ?_⟩
        · intro j h0 hj hne
          rw [swp_length] at hj
          rw [gt_swp d hi k1, gt_swp d hi k1]
          rw [if_neg hne]
          by_cases e1 : j = k
          · subst e1
            rw [if_pos rfl, if_pos k2]
            exact hle
          · rw [if_neg e1]
            by_cases e2 : (j - 1) / 2 = i
            · rw [if_pos e2, if_neg (show ¬ j = i by omega)]
              exact kl j hj h0 e2
            · rw [if_neg e2]
              by_cases e3 : j = i
              · subst e3
                rw [if_pos rfl]
                have := h.kid k (by omega) k1 k2 h0
                exact this
              · rw [if_neg e3]
                exact h.own j h0 hj e2
        · intro j h0 hj hjp hp0
          rw [swp_length] at hj
          rw [gt_swp d hi k1, gt_swp d hi k1]
          rw [k2, if_neg (show ¬ i = k by omega), if_pos rfl, if_neg (show ¬ j = k by omega), if_neg (show ¬ j = i by omega)]
          have := h.own j h0 hj (by omega)
          rw [hjp] at this
          exact this
      · rename_i hlt
        intro j h0 hj
        by_cases e : (j - 1) / 2 = i
        · rw [e]
          exact ht.trans _ _ _ (by simpa using hlt) (kl j hj h0 e)
        · exact h.own j h0 hj e
theorem heap_min (ht : Tot lt) {xs : List α} (h : IsHeap d lt xs) : ∀ j, j < xs.length → lt (gt d xs j) (gt d xs 0) = false := by
  intro j
  induction j using Nat.strongRecOn with
  | _ j ih =>
    intro hj
    by_cases h0 : j = 0
    · subst h0
      exact ht.refl _
    · exact ht.trans _ _ _ (ih ((j - 1) / 2) (by omega) (by omega)) (h j (by omega) hj)
def push (d : α) (lt : α → α → Bool) (xs : List α) (x : α) : List α := up d lt xs.length (xs ++ [x]) xs.length
theorem gt_snoc {xs : List α} {x : α} {j : Nat} (h : j < xs.length) : gt d (xs ++ [x]) j = gt d xs j := by
  unfold gt
  rw [List.getD_eq_getElem?_getD, List.getD_eq_getElem?_getD, List.getElem?_append_left h]
theorem push_perm (xs : List α) (x : α) : (push d lt xs x).Perm (xs ++ [x]) := up_perm _ _ _ (by simp)
theorem push_heap (ht : Tot lt) {xs : List α} (h : IsHeap d lt xs) (x : α) : IsHeap d lt (push d lt xs x) := by
  refine up_heap ht _ _ _ (by simp) (Nat.le_refl _) ⟨fun j h0 hj hne => ?_, fun j h0 hj hp hi => ?_⟩
  · simp at hj
    rw [gt_snoc (by omega), gt_snoc (by omega)]
    exact h j h0 (by omega)
  · simp at hj
    omega
/-- What is left of a heap of n + 1 items when the first is taken. -/
def popped (d : α) (lt : α → α → Bool) (xs : List α) : List α := down d lt xs.length ((xs.set 0 (gt d xs (xs.length - 1))).take (xs.length - 1)) 0
theorem pop_length {xs : List α} : ((xs.set 0 (gt d xs (xs.length - 1))).take (xs.length - 1)).length = xs.length - 1 := by
  rw [List.length_take, List.length_set]; omega
theorem take_gt {xs : List α} {n j : Nat} (h : j < n) : gt d (xs.take n) j = gt d xs j := by
  unfold gt
  rw [List.getD_eq_getElem?_getD, List.getD_eq_getElem?_getD, List.getElem?_take, if_pos h]
theorem set_gt {xs : List α} {j : Nat} {v : α} (h : 0 < j) : gt d (xs.set 0 v) j = gt d xs j := by
  unfold gt
  rw [List.getD_eq_getElem?_getD, List.getD_eq_getElem?_getD, List.getElem?_set, if_neg (by omega)]
theorem popped_heap (ht : Tot lt) {xs : List α} (h : IsHeap d lt xs) : IsHeap d lt (popped d lt xs) := by
  refine down_heap ht _ _ _ (by rw [pop_length]; omega) ⟨fun j h0 hj hp => ?_, fun j h0 hj hp hi => by omega⟩
  rw [pop_length] at hj
  rw [take_gt hj, take_gt (by omega), set_gt h0, set_gt (by omega)]
  exact h j h0 (by omega)
theorem pop_perm {xs : List α} (h : 0 < xs.length) : (gt d xs 0 :: popped d lt xs).Perm xs := by
  by_cases h1 : xs.length = 1
  · obtain ⟨x, rfl⟩ := List.length_eq_one_iff.1 h1
    simp [popped, gt, down]
  · have hp : (popped d lt xs).Perm ((xs.set 0 (gt d xs (xs.length - 1))).take (xs.length - 1)) := down_perm _ _ _ (by rw [pop_length]; omega)
    refine (List.Perm.cons _ hp).trans ?_
    have hs := swp_perm d (xs := xs) (i := 0) (j := xs.length - 1) h (by omega)
    refine List.Perm.trans ?_ hs
    have e : swp d xs 0 (xs.length - 1) = (xs.set 0 (gt d xs (xs.length - 1))).take (xs.length - 1) ++ [gt d xs 0] := by
      refine gt_ext d ?_ fun j hj => ?_
      · rw [swp_length, List.length_append, pop_length]
        simp
        omega
      · rw [swp_length] at hj
        rw [gt_swp d h (by omega)]
        by_cases e1 : j = xs.length - 1
        · subst e1
          rw [if_pos rfl]
          unfold gt
          rw [List.getD_eq_getElem?_getD (l := _ ++ _), List.getElem?_append_right (by rw [List.length_take, List.length_set]; omega)]
          rw [List.length_take, List.length_set, show xs.length - 1 - min (xs.length - 1) xs.length = 0 by omega]
          rfl
        · rw [if_neg e1, gt_snoc (by rw [pop_length]; omega), take_gt (by omega)]
          by_cases e2 : j = 0
          · subst e2
            rw [if_pos rfl]
            unfold gt
            rw [List.getD_eq_getElem?_getD (l := xs.set _ _), List.getElem?_set, if_pos rfl, if_pos h]
            rfl
          · rw [if_neg e2, set_gt (by omega)]
    rw [e]
    exact (List.perm_append_comm (l₁ := [gt d xs 0])).trans (List.Perm.refl _)
theorem popped_length {xs : List α} (h : 0 < xs.length) : (popped d lt xs).length = xs.length - 1 := by
  have := (pop_perm (d := d) (lt := lt) h).length_eq
  simp at this
  omega
/-- Popping a heap, under way: what has come out, and what is left. -/
structure Pops (d : α) (lt : α → α → Bool) (all out xs : List α) : Prop where
  perm : (out ++ xs).Perm all
  heap : IsHeap d lt xs
  sorted : out.Pairwise fun a b => lt b a = false
  below : ∀ a, a ∈ out → ∀ b, b ∈ xs → lt b a = false
theorem Pops.start {all xs : List α} (hp : xs.Perm all) (hh : IsHeap d lt xs) : Pops d lt all [] xs := ⟨hp, hh, List.Pairwise.nil, fun a h => by cases h⟩
theorem Pops.next (ht : Tot lt) {all out xs : List α} (h : Pops d lt all out xs) (hl : 0 < xs.length) : Pops d lt all (out ++ [gt d xs 0]) (popped d lt xs) := by
  have hp := pop_perm (d := d) (lt := lt) hl
  refine ⟨?_, popped_heap ht h.heap, ?_, ?_⟩
  · rw [List.append_assoc]
    exact (List.Perm.append_left out hp).trans h.perm
  · rw [List.pairwise_append]
    exact ⟨h.sorted, List.pairwise_singleton _ _, fun a ha b hb => by
      rw [List.mem_singleton] at hb
      subst hb
      exact h.below a ha _ (gt_mem d hl)⟩
  · intro a ha b hb
    have hbx : b ∈ xs := hp.subset (List.mem_cons_of_mem _ hb)
    rcases List.mem_append.1 ha with ha | ha
    · exact h.below a ha b hbx
    · rw [List.mem_singleton] at ha
      subst ha
      obtain ⟨j, hj, e⟩ := List.getElem_of_mem hbx
      rw [← e, ← gt_get d hj]
      exact heap_min ht h.heap j hj
end
end Go.Proofs.Ytmmfobbalhpomaa
