/- Merging sorted lists, as lists of numbered rows: taking the least head again and again gives the sorted whole. No program in sight. -/
import Derived.Test.YtgcfpepaapdjoaaR
namespace Go.Proofs.Ytgcfpepaapdjoaa
set_option linter.unusedVariables false
set_option linter.unusedSimpArgs false
open Go.RowKit

structure Nm where
  row : Row
  at_ : Int
def ltN (o : Int) (a b : Nm) : Bool := if cmpRow o a.row b.row < 0 then true else if cmpRow o a.row b.row = 0 then decide (a.at_ < b.at_) else false
/-- The order of numbered rows as a chain of four numbers. -/
def key (o : Int) (a : Nm) : Int × Int × Int × Int := (a.row.time, (if o = 1 then a.row.kind else a.row.seq), a.row.index, a.at_)
def ltK (a b : Int × Int × Int × Int) : Prop := a.1 < b.1 ∨ (a.1 = b.1 ∧ (a.2.1 < b.2.1 ∨ (a.2.1 = b.2.1 ∧ (a.2.2.1 < b.2.2.1 ∨ (a.2.2.1 = b.2.2.1 ∧ a.2.2.2 < b.2.2.2)))))
theorem ltN_iff {o : Int} (ho : o = 1 ∨ o = 2) (a b : Nm) : ltN o a b = true ↔ ltK (key o a) (key o b) := by
  obtain ⟨⟨k1, t1, s1, i1, f1, o1, b1⟩, a1⟩ := a
  obtain ⟨⟨k2, t2, s2, i2, f2, o2, b2⟩, a2⟩ := b
  unfold ltN ltK key cmpRow
  rcases ho with rfl | rfl
  · simp only [if_true, orI3, cmpI]
    repeat' split
    all_goals simp
    all_goals omega
  · simp only [if_neg (show ¬ (2 : Int) = 1 by decide), if_true, orI3, cmpI]
    repeat' split
    all_goals simp
    all_goals omega
theorem ltN_no {o : Int} (ho : o = 1 ∨ o = 2) (a b : Nm) : ltN o a b = false ↔ ¬ ltK (key o a) (key o b) := by rw [← ltN_iff ho, Bool.not_eq_true]
theorem ltN_cross {o : Int} {x y : Nm} (h : x.at_ < y.at_) : ltN o y x = before o y.row x.row := by
  unfold ltN before
  by_cases h1 : cmpRow o y.row x.row < 0
  · rw [if_pos h1]; simp [h1]
  · rw [if_neg h1]
    by_cases h2 : cmpRow o y.row x.row = 0
    · rw [if_pos h2]; simp [h1]; omega
    · rw [if_neg h2]; simp [h1]
/-- The rows with their numbers, from k on. -/
def numsF (k : Int) : List Row → List Nm
  | [] => []
  | r :: rs => ⟨r, k⟩ :: numsF (k + 1) rs
theorem numsF_rows (k : Int) (l : List Row) : (numsF k l).map Nm.row = l := by
  induction l generalizing k with
  | nil => rfl
  | cons x l ih => simp [numsF, ih]
theorem numsF_length (k : Int) (l : List Row) : (numsF k l).length = l.length := by
  induction l generalizing k with
  | nil => rfl
  | cons x l ih => simp [numsF, ih]
theorem numsF_app (k : Int) (l m : List Row) : numsF k (l ++ m) = numsF k l ++ numsF (k + l.length) m := by
  induction l generalizing k with
  | nil => simp [numsF]
  | cons x l ih =>
    simp only [List.cons_append, numsF, ih, List.length_cons]
    rw [show k + 1 + (l.length : Int) = k + ((l.length + 1 : Nat) : Int) by omega]
theorem numsF_mem {k : Int} {l : List Row} {x : Nm} (h : x ∈ numsF k l) : k ≤ x.at_ ∧ x.at_ < k + l.length := by
  induction l generalizing k with
  | nil => simp [numsF] at h
  | cons y l ih =>
    rw [numsF, List.mem_cons] at h
    rcases h with rfl | h
    · simp only [List.length_cons]; omega
    · have := ih h
      simp only [List.length_cons]
      omega
theorem numsF_at {k : Int} {l : List Row} {a b : Nm} (ha : a ∈ numsF k l) (hb : b ∈ numsF k l) (h : a.at_ = b.at_) : a = b := by
  induction l generalizing k with
  | nil => simp [numsF] at ha
  | cons y l ih =>
    rw [numsF, List.mem_cons] at ha hb
    rcases ha with rfl | ha
    · rcases hb with rfl | hb
      · rfl
      · have := numsF_mem hb; simp only at h; omega
    · rcases hb with rfl | hb
      · have := numsF_mem ha; simp only at h; omega
      · exact ih ha hb
def nums (rows : List Row) : List Nm := numsF 0 rows
theorem nums_length (l : List Row) : (nums l).length = l.length := numsF_length 0 l
theorem nums_rows (l : List Row) : (nums l).map Nm.row = l := numsF_rows 0 l
/-- The rows of a list in order, those alike as they stood. -/
def IsSorted (o : Int) (rows : List Row) (out : List Nm) : Prop := out.Perm (nums rows) ∧ out.Pairwise fun a b => ltN o b a = false
theorem IsSorted.length {o : Int} {rows : List Row} {out : List Nm} (h : IsSorted o rows out) : out.length = rows.length := by rw [h.1.length_eq, nums_length]
/-- There is one way to sort. -/
theorem IsSorted.unique {o : Int} (ho : o = 1 ∨ o = 2) {rows : List Row} {p q : List Nm} (hp : IsSorted o rows p) (hq : IsSorted o rows q) : p = q := by
  refine List.Perm.eq_of_pairwise (le := fun a b => ltN o b a = false) (fun a b ha hb h1 h2 => ?_) hp.2 hq.2 (hp.1.trans hq.1.symm)
  refine numsF_at (hp.1.subset ha) (hq.1.subset hb) ?_
  have e1 : ¬ ltK (key o b) (key o a) := by rw [← ltN_iff ho, h1]; decide
  have e2 : ¬ ltK (key o a) (key o b) := by rw [← ltN_iff ho, h2]; decide
  unfold ltK key at e1 e2
  simp only at e1 e2
  omega
theorem ltN_trans {o : Int} (ho : o = 1 ∨ o = 2) {a b c : Nm} (h : ltN o b a = false) (k : ltN o c b = false) : ltN o c a = false := by
  rw [ltN_no ho] at *
  unfold ltK at *
  omega
/-- Rows in order. -/
def Up (o : Int) (l : List Row) : Prop := ∀ i x y, l[i]? = some x → l[i + 1]? = some y → before o y x = false
theorem Up.tail {o : Int} {x : Row} {l : List Row} (h : Up o (x :: l)) : Up o l := fun i a b ha hb => h (i + 1) a b (by simpa using ha) (by simpa using hb)
theorem up_sorted {o : Int} (ho : o = 1 ∨ o = 2) : ∀ (l : List Row) (k : Int), Up o l → (numsF k l).Pairwise fun a b => ltN o b a = false := by
  intro l
  induction l with
  | nil => intro k _; exact List.Pairwise.nil
  | cons x l ih =>
    intro k h
    have h1 := ih (k + 1) h.tail
    rw [numsF, List.pairwise_cons]
    refine ⟨fun b hb => ?_, h1⟩
    cases l with
    | nil => simp [numsF] at hb
    | cons y l =>
      have h0 : ltN o ⟨y, k + 1⟩ ⟨x, k⟩ = false := by
        rw [ltN_cross (by simp only; omega)]
        exact h 0 x y rfl rfl
      rw [numsF] at hb h1
      rw [List.mem_cons] at hb
      rcases hb with rfl | hb
      · exact h0
      · exact ltN_trans ho h0 ((List.pairwise_cons.1 h1).1 b hb)
theorem sorted_up {o : Int} (ho : o = 1 ∨ o = 2) {l : List Row} (h : Up o l) : IsSorted o l (nums l) := ⟨List.Perm.refl _, up_sorted ho l 0 h⟩

/-- Lists one behind the other, numbered through. -/
def numsL (k : Int) : List (List Row) → List (List Nm)
  | [] => []
  | l :: ls => numsF k l :: numsL (k + l.length) ls
theorem numsL_length (k : Int) (ls : List (List Row)) : (numsL k ls).length = ls.length := by
  induction ls generalizing k with
  | nil => rfl
  | cons x l ih => simp [numsL, ih]
theorem numsL_flatten (k : Int) (ls : List (List Row)) : (numsL k ls).flatten = numsF k ls.flatten := by
  induction ls generalizing k with
  | nil => rfl
  | cons x l ih => simp [numsL, ih, numsF_app]
theorem numsL_rows (k : Int) (ls : List (List Row)) : (numsL k ls).map (List.map Nm.row) = ls := by
  induction ls generalizing k with
  | nil => rfl
  | cons x l ih => simp [numsL, ih, numsF_rows]
theorem numsL_ge {k : Int} {ls : List (List Row)} {m : List Nm} (hm : m ∈ numsL k ls) {y : Nm} (hy : y ∈ m) : k ≤ y.at_ := by
  induction ls generalizing k with
  | nil => simp [numsL] at hm
  | cons x l ih =>
    rw [numsL, List.mem_cons] at hm
    rcases hm with rfl | hm
    · exact (numsF_mem hy).1
    · have := ih hm
      omega
theorem numsL_apart (k : Int) (ls : List (List Row)) : (numsL k ls).Pairwise fun l m => ∀ x ∈ l, ∀ y ∈ m, x.at_ < y.at_ := by
  induction ls generalizing k with
  | nil => exact List.Pairwise.nil
  | cons x l ih =>
    rw [numsL, List.pairwise_cons]
    refine ⟨fun m hm a ha b hb => ?_, ih _⟩
    have h1 := (numsF_mem ha).2
    have h2 := numsL_ge hm hb
    omega
/-- The merge under way: what is out, what is left of each list. -/
structure MG (o : Int) (all : List Row) (out : List Nm) (rems : List (List Nm)) : Prop where
  perm : (out ++ rems.flatten).Perm (nums all)
  srt : out.Pairwise fun a b => ltN o b a = false
  ahead : ∀ x ∈ out, ∀ l ∈ rems, ∀ y ∈ l, ltN o y x = false
  each : ∀ l ∈ rems, l.Pairwise fun a b => ltN o b a = false
  apart : rems.Pairwise fun l m => ∀ x ∈ l, ∀ y ∈ m, x.at_ < y.at_
theorem numsL_each {o : Int} (ho : o = 1 ∨ o = 2) {k : Int} {ls : List (List Row)} (h : ∀ l ∈ ls, Up o l) : ∀ l ∈ numsL k ls, l.Pairwise fun a b => ltN o b a = false := by
  induction ls generalizing k with
  | nil => intro l hl; simp [numsL] at hl
  | cons x ls ih =>
    intro l hl
    rw [numsL, List.mem_cons] at hl
    rcases hl with rfl | hl
    · exact up_sorted ho x k (h x (List.mem_cons_self ..))
    · exact ih (fun l hl => h l (List.mem_cons_of_mem _ hl)) l hl
theorem MG.start {o : Int} (ho : o = 1 ∨ o = 2) {ls : List (List Row)} (h : ∀ l ∈ ls, Up o l) : MG o ls.flatten [] (numsL 0 ls) :=
  ⟨by rw [List.nil_append, numsL_flatten]; exact List.Perm.refl _, List.Pairwise.nil, (fun x hx => by cases hx), numsL_each ho h, numsL_apart 0 ls⟩
theorem flatten_set {α : Type} : ∀ (rems : List (List α)) (b : Nat) (x : α) (t : List α), rems[b]? = some (x :: t) → rems.flatten.Perm (x :: (rems.set b t).flatten) := by
  intro rems
  induction rems with
  | nil => intro b x t h; simp at h
  | cons l rems ih =>
    intro b x t h
    cases b with
    | zero =>
      simp at h
      subst h
      simp
    | succ b =>
      rw [List.getElem?_cons_succ] at h
      have := ih b x t h
      simp only [List.flatten_cons, List.set_cons_succ]
      exact (this.append_left l).trans List.perm_middle
theorem mem_set_cases {α : Type} {l : List α} {b : Nat} {t y : α} (h : y ∈ l.set b t) : y ∈ l ∨ y = t := by
  rcases List.mem_or_eq_of_mem_set h with h | h
  · exact .inl h
  · exact .inr h
theorem MG.step {o : Int} (ho : o = 1 ∨ o = 2) {all : List Row} {out : List Nm} {rems : List (List Nm)} (h : MG o all out rems) {b : Nat} {x : Nm} {t : List Nm} (hb : rems[b]? = some (x :: t))
    (hmin : ∀ j y m, rems[j]? = some (y :: m) → j ≠ b → ltN o y x = false) : MG o all (out ++ [x]) (rems.set b t) := by
  have hbm : (x :: t) ∈ rems := List.mem_of_getElem? hb
  have hpb := List.pairwise_cons.1 (h.each _ hbm)
  have hall : ∀ l ∈ rems, ∀ y ∈ l, y = x ∨ ltN o y x = false := by
    intro l hl y hy
    obtain ⟨j, hj⟩ := List.mem_iff_getElem?.1 hl
    by_cases e : j = b
    · subst e
      rw [hb] at hj
      injection hj with hj
      subst hj
      rcases List.mem_cons.1 hy with rfl | hy
      · exact .inl rfl
      · exact .inr (hpb.1 y hy)
    · cases l with
      | nil => cases hy
      | cons z m =>
        have h1 := hmin j z m hj e
        rcases List.mem_cons.1 hy with rfl | hy
        · exact .inr h1
        · exact .inr (ltN_trans ho h1 ((List.pairwise_cons.1 (h.each _ hl)).1 y hy))
  have hsub : ∀ l ∈ rems.set b t, ∀ y ∈ l, ∃ l' ∈ rems, y ∈ l' ∧ (ltN o y x = false) := by
    intro l hl y hy
    rcases mem_set_cases hl with hl' | rfl
    · rcases hall l hl' y hy with rfl | h1
      · exact ⟨l, hl', hy, by rw [ltN_no ho]; unfold ltK; omega⟩
      · exact ⟨l, hl', hy, h1⟩
    · exact ⟨_, hbm, List.mem_cons_of_mem _ hy, hpb.1 y hy⟩
  refine ⟨?_, ?_, ?_, ?_, ?_⟩
  · rw [List.append_assoc]
    exact (List.Perm.append_left out (flatten_set rems b x t hb).symm).trans h.perm
  · rw [List.pairwise_append]
    exact ⟨h.srt, List.pairwise_singleton _ _, fun a ha c hc => by
      rw [List.mem_singleton] at hc
      subst hc
      exact h.ahead a ha _ hbm _ (List.mem_cons_self ..)⟩
  · intro a ha l hl y hy
    obtain ⟨l', hl', hy', hx⟩ := hsub l hl y hy
    rcases List.mem_append.1 ha with ha | ha
    · exact h.ahead a ha l' hl' y hy'
    · rw [List.mem_singleton] at ha
      subst ha
      exact hx
  · intro l hl
    rcases mem_set_cases hl with hl' | rfl
    · exact h.each l hl'
    · exact hpb.2
  · rw [List.pairwise_iff_getElem]
    intro i j hi hj hij a ha c hc
    rw [List.length_set] at hi hj
    have hap := List.pairwise_iff_getElem.1 h.apart i j hi hj hij
    have hmem : ∀ (q : Nat) (hq : q < rems.length) (z : Nm), z ∈ (rems.set b t)[q]'(by simpa using hq) → z ∈ rems[q] := by
      intro q hq z hz
      by_cases e : b = q
      · subst e
        rw [List.getElem_set_self] at hz
        have e2 : rems[b] = x :: t := by rw [List.getElem?_eq_getElem hq] at hb; exact Option.some.inj hb
        rw [e2]
        exact List.mem_cons_of_mem _ hz
      · rw [List.getElem_set_ne e] at hz
        exact hz
    exact hap a (hmem i hi a ha) c (hmem j hj c hc)
theorem MG.done {o : Int} {all : List Row} {out : List Nm} {rems : List (List Nm)} (h : MG o all out rems) (he : ∀ l ∈ rems, l = []) : IsSorted o all out := by
  have e : rems.flatten = [] := List.flatten_eq_nil_iff.2 he
  have := h.perm
  rw [e, List.append_nil] at this
  exact ⟨this, h.srt⟩
theorem MG.count {o : Int} {all : List Row} {out : List Nm} {rems : List (List Nm)} (h : MG o all out rems) : out.length + rems.flatten.length = all.length := by
  have := h.perm.length_eq
  rw [List.length_append, nums_length] at this
  exact this
end Go.Proofs.Ytgcfpepaapdjoaa
