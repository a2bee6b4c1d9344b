/- The document's sorting, as lists: merging keeps what is sorted. No program in sight. -/
import Derived.Test.YtgcfpepaapdjoaaMA
namespace Go.Proofs.Ytgcfpepaapdjoaa
set_option linter.unusedVariables false
set_option linter.unusedSimpArgs false
open Go.RowKit

/-- Two lists merged: the first one's rows first, where they are alike. -/
def mergeR (o : Int) : List Row → List Row → List Row
  | [], ys => ys
  | x :: xs, [] => x :: xs
  | x :: xs, y :: ys => if before o y x = true then y :: mergeR o (x :: xs) ys else x :: mergeR o xs (y :: ys)
termination_by xs ys => xs.length + ys.length
theorem mergeR_left (o : Int) (ys : List Row) : mergeR o [] ys = ys := by unfold mergeR; rfl
theorem mergeR_right (o : Int) (xs : List Row) : mergeR o xs [] = xs := by cases xs <;> simp [mergeR]
theorem mergeR_length (o : Int) : ∀ (n : Nat) (xs ys : List Row), xs.length + ys.length = n → (mergeR o xs ys).length = n := by
  intro n
  induction n with
  | zero =>
    intro xs ys h
    obtain rfl : xs = [] := List.length_eq_zero_iff.1 (by omega)
    rw [mergeR_left]
    omega
  | succ n ih =>
    intro xs ys h
    cases xs with
    | nil => rw [mergeR_left]; simpa using h
    | cons x xs =>
      cases ys with
      | nil => rw [mergeR_right]; simpa using h
      | cons y ys =>
        simp only [List.length_cons] at h
        rw [mergeR]
        split
        · rw [List.length_cons, ih (x :: xs) ys (by simp only [List.length_cons]; omega)]
        · rw [List.length_cons, ih xs (y :: ys) (by simp only [List.length_cons]; omega)]
/-- One step of the merge: where the two stand. -/
theorem mergeR_a {o : Int} {la lb : List Row} {i j : Nat} {x : Row} (hx : la[i]? = some x) (h : lb[j]? = none ∨ ∃ y, lb[j]? = some y ∧ before o y x = false) : mergeR o (la.drop i) (lb.drop j) = x :: mergeR o (la.drop (i + 1)) (lb.drop j) := by
  obtain ⟨hi, rfl⟩ := List.getElem?_eq_some_iff.1 hx
  rw [List.drop_eq_getElem_cons hi]
  rcases h with h | ⟨y, hy, hb⟩
  · rw [List.drop_eq_nil_of_le (List.getElem?_eq_none_iff.1 h), mergeR_right, mergeR_right]
  · obtain ⟨hj, rfl⟩ := List.getElem?_eq_some_iff.1 hy
    rw [List.drop_eq_getElem_cons hj, mergeR, if_neg (by rw [hb]; decide)]
theorem mergeR_b {o : Int} {la lb : List Row} {i j : Nat} {y : Row} (hy : lb[j]? = some y) (h : la[i]? = none ∨ ∃ x, la[i]? = some x ∧ before o y x = true) : mergeR o (la.drop i) (lb.drop j) = y :: mergeR o (la.drop i) (lb.drop (j + 1)) := by
  obtain ⟨hj, rfl⟩ := List.getElem?_eq_some_iff.1 hy
  rw [List.drop_eq_getElem_cons hj]
  rcases h with h | ⟨x, hx, hb⟩
  · rw [List.drop_eq_nil_of_le (List.getElem?_eq_none_iff.1 h), mergeR_left, mergeR_left]
  · obtain ⟨hi, rfl⟩ := List.getElem?_eq_some_iff.1 hx
    rw [List.drop_eq_getElem_cons hi, mergeR, if_pos hb]
def leN (o : Int) (a b : Nm) : Bool := !ltN o b a
theorem merge_map {o : Int} : ∀ (n : Nat) (na nb : List Nm), na.length + nb.length = n → (∀ x ∈ na, ∀ y ∈ nb, x.at_ < y.at_) → mergeR o (na.map Nm.row) (nb.map Nm.row) = (List.merge na nb (leN o)).map Nm.row := by
  intro n
  induction n with
  | zero =>
    intro na nb h hc
    obtain rfl : na = [] := List.length_eq_zero_iff.1 (by omega)
    simp [mergeR_left]
  | succ n ih =>
    intro na nb h hc
    cases na with
    | nil => simp [mergeR_left]
    | cons x xs =>
      cases nb with
      | nil => simp [mergeR_right]
      | cons y ys =>
        simp only [List.length_cons] at h
        have e := ltN_cross (o := o) (hc x (List.mem_cons_self ..) y (List.mem_cons_self ..))
        rw [List.map_cons, List.map_cons, mergeR, List.merge]
        unfold leN
        by_cases hb : before o y.row x.row = true
        · rw [if_pos hb, if_neg (by rw [e, hb]; decide), List.map_cons, ← List.map_cons, ih (x :: xs) ys (by simp only [List.length_cons]; omega) fun a ha b hb => hc a ha b (List.mem_cons_of_mem _ hb)]
          rfl
        · rw [if_neg hb, if_pos (by rw [e]; simpa using hb), List.map_cons, ← List.map_cons, ih xs (y :: ys) (by simp only [List.length_cons]; omega) fun a ha b hb => hc a (List.mem_cons_of_mem _ ha) b hb]
          rfl
def shiftN (k : Int) (x : Nm) : Nm := ⟨x.row, x.at_ + k⟩
theorem numsF_shift (k j : Int) (l : List Row) : numsF (j + k) l = (numsF j l).map (shiftN k) := by
  induction l generalizing j with
  | nil => rfl
  | cons x l ih =>
    simp only [numsF, List.map_cons]
    rw [show j + k + 1 = (j + 1) + k by omega, ih]
    rfl
theorem nums_app (r1 r2 : List Row) : nums (r1 ++ r2) = nums r1 ++ (nums r2).map (shiftN r1.length) := by
  unfold nums
  rw [numsF_app, numsF_shift]
theorem ltN_shift (o k : Int) (a b : Nm) : ltN o (shiftN k a) (shiftN k b) = ltN o a b := by
  unfold ltN shiftN
  simp
/-- What is sorted is merged into what is sorted. -/
theorem sorted_merge {o : Int} (ho : o = 1 ∨ o = 2) {r1 r2 : List Row} {o1 o2 : List Nm} (h1 : IsSorted o r1 o1) (h2 : IsSorted o r2 o2) : ∃ out, IsSorted o (r1 ++ r2) out ∧ out.map Nm.row = mergeR o (o1.map Nm.row) (o2.map Nm.row) := by
  have hlt : ∀ x ∈ o1, x.at_ < r1.length := fun x hx => by
    have := (numsF_mem (h1.1.subset hx)).2
    omega
  have hge : ∀ y ∈ o2.map (shiftN r1.length), (r1.length : Int) ≤ y.at_ := fun y hy => by
    obtain ⟨z, hz, rfl⟩ := List.mem_map.1 hy
    have := (numsF_mem (h2.1.subset hz)).1
    simp only [shiftN]
    omega
  have hc : ∀ x ∈ o1, ∀ y ∈ o2.map (shiftN r1.length), x.at_ < y.at_ := fun x hx y hy => by
    have := hlt x hx
    have := hge y hy
    omega
  refine ⟨List.merge o1 (o2.map (shiftN r1.length)) (leN o), ⟨?_, ?_⟩, ?_⟩
  · rw [nums_app]
    exact (List.merge_perm_append ..).trans (h1.1.append (h2.1.map _))
  · have hp1 : o1.Pairwise fun a b => leN o a b = true := h1.2.imp fun h => by unfold leN; rw [h]; rfl
    have hp2 : (o2.map (shiftN r1.length)).Pairwise fun a b => leN o a b = true := by
      rw [List.pairwise_map]
      exact h2.2.imp fun h => by unfold leN; rw [ltN_shift, h]; rfl
    have hT : ∀ a b, ltN o a b = false ↔ ¬ ltK (key o a) (key o b) := fun a b => by rw [← ltN_iff ho, Bool.not_eq_true]
    have ht : ∀ a b c, leN o a b = true → leN o b c = true → leN o a c = true := fun a b c h k => by
      unfold leN at *
      simp only [Bool.not_eq_true'] at *
      rw [hT] at *
      unfold ltK at *
      omega
    have htt : ∀ a b, (leN o a b || leN o b a) = true := fun a b => by
      unfold leN
      by_cases h : ltN o b a = true
      · have h2 : ltN o a b = false := by
          rw [hT]
          rw [ltN_iff ho] at h
          unfold ltK at *
          omega
        rw [h2]; simp
      · rw [Bool.not_eq_true] at h
        rw [h]; simp
    exact (List.pairwise_merge ht htt _ _ hp1 hp2).imp fun h => by unfold leN at h; simpa using h
  · rw [← merge_map _ o1 (o2.map (shiftN r1.length)) rfl hc, List.map_map]
    rfl
theorem sorted_small {o : Int} {rows : List Row} (h : rows.length < 2) : IsSorted o rows (nums rows) := by
  refine ⟨List.Perm.refl _, ?_⟩
  cases rows with
  | nil => exact List.Pairwise.nil
  | cons x xs =>
    cases xs with
    | nil => exact List.pairwise_singleton _ _
    | cons y ys => simp at h; omega
end Go.Proofs.Ytgcfpepaapdjoaa
