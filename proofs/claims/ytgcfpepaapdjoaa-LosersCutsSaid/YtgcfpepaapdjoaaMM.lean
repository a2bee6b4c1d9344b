/- A sorted list dealt out: slices that grow side by side, and what the merge of them gives. No program in sight. -/
import Derived.Test.YtgcfpepaapdjoaaMJ
namespace Go.Proofs.Ytgcfpepaapdjoaa
set_option linter.unusedVariables false
set_option linter.unusedSimpArgs false
open Go.RowKit

/-! ### 1. Slices of one type side by side -/
structure Fam (w : World) (B : Nat) (fs : List LL) : Prop where
  own : ∀ (i : Nat) (l : LL), fs[i]? = some l → Own w B 29 7 Row.cells l.val l.rows
  apart : ∀ (i j : Nat) (a b : LL), fs[i]? = some a → fs[j]? = some b → i ≠ j → ∀ k, a.val.ownBlock = some k → b.val.ownBlock ≠ some k
theorem Fam.below {w w' : World} {B : Nat} {fs : List LL} (h : Fam w B fs) (hb : Below w.heap.size w w') : Fam w' B fs := ⟨fun i l hl => (h.own i l hl).below hb, h.apart⟩
theorem Fam.turn {w w' : World} {B : Nat} {fs : List LL} {S : Nat → Prop} (h : Fam w B fs) (ht : Turn S w w') (hs : ∀ (i : Nat) (l : LL), fs[i]? = some l → ∀ k, l.val.ownBlock = some k → ¬ S k) : Fam w' B fs := ⟨fun i l hl => (h.own i l hl).turn ht (hs i l hl), h.apart⟩
theorem Fam.grow {w w' : World} {B : Nat} {fs : List LL} (h : Fam w B fs) {i : Nat} {x x' : LL} (hx : fs[i]? = some x) (hg : w.grownBy w' x.val.ownBlock) (ho : Own w' B 29 7 Row.cells x'.val x'.rows) (hb : ∀ k, x'.val.ownBlock = some k → x.val.ownBlock = some k ∨ w.heap.size ≤ k) : Fam w' B (fs.set i x') := by
  have hi := (List.getElem?_eq_some_iff.1 hx).1
  have ht : Turn (fun k => x.val.ownBlock = some k) w w' := (Turn.refl _ w).grown hg fun k hk => .inl hk
  have hset : ∀ j l, (fs.set i x')[j]? = some l → (j = i ∧ l = x') ∨ (j ≠ i ∧ fs[j]? = some l) := by
    intro j l hl
    by_cases e : i = j
    · subst e
      rw [List.getElem?_set_self hi] at hl
      exact .inl ⟨rfl, (Option.some.inj hl).symm⟩
    · rw [List.getElem?_set_ne e] at hl
      exact .inr ⟨Ne.symm e, hl⟩
  refine ⟨fun j l hl => ?_, fun j1 j2 a b ha hb' hne k hk => ?_⟩
  · rcases hset j l hl with ⟨rfl, rfl⟩ | ⟨hj, hl'⟩
    · exact ho
    · exact (h.own j l hl').turn ht fun k hk => h.apart j i l x hl' hx hj k hk |> fun hh e => hh e
  · rcases hset j1 a ha with ⟨rfl, rfl⟩ | ⟨h1, ha'⟩
    · rcases hset j2 b hb' with ⟨rfl, rfl⟩ | ⟨h2, hb2⟩
      · exact absurd rfl hne
      · intro e
        rcases hb k hk with h3 | h3
        · exact h.apart _ _ x b hx hb2 hne k h3 e
        · have := ((h.own _ b hb2).base k e).2
          omega
    · rcases hset j2 b hb' with ⟨rfl, rfl⟩ | ⟨h2, hb2⟩
      · intro e
        rcases hb k e with h3 | h3
        · exact h.apart _ _ a x ha' hx h1 k hk h3
        · have := ((h.own _ a ha').base k hk).2
          omega
      · exact h.apart _ _ a b ha' hb2 hne k hk

/-! ### 2. What the deal is -/
def LT2 (l : List Row) : Prop := l.Pairwise fun a b => a.time < b.time
structure Deal (i : Nat) (rs : List (List Row)) (al : List Row) : Prop where
  perm : rs.flatten.Perm al
  ok : ∀ r ∈ al, r.ok = true ∧ r.time < i
  upA : LT2 al
  upL : ∀ l ∈ rs, LT2 l
  cnt : al.length ≤ 1024
  cnt2 : al.length ≤ i
theorem Deal.start : Deal 0 (List.replicate 5 []) [] := ⟨by simp, by simp, List.Pairwise.nil, fun l hl => by rw [(List.mem_replicate.1 hl).2]; exact List.Pairwise.nil, by simp, by simp⟩
theorem Deal.skip {i : Nat} {rs : List (List Row)} {al : List Row} (h : Deal i rs al) : Deal (i + 1) rs al :=
  ⟨h.perm, fun r hr => ⟨(h.ok r hr).1, by have := (h.ok r hr).2; omega⟩, h.upA, h.upL, h.cnt, by have := h.cnt2; omega⟩
theorem flatten_add {α : Type} : ∀ (rems : List (List α)) (b : Nat) (l : List α) (x : α), rems[b]? = some l → (rems.set b (l ++ [x])).flatten.Perm (rems.flatten ++ [x]) := by
  intro rems
  induction rems with
  | nil => intro b l x h; simp at h
  | cons m rems ih =>
    intro b l x h
    cases b with
    | zero =>
      simp at h
      subst h
      simp only [List.set_cons_zero, List.flatten_cons, List.append_assoc]
      exact (List.perm_append_comm).append_left m
    | succ b =>
      rw [List.getElem?_cons_succ] at h
      simp only [List.set_cons_succ, List.flatten_cons, List.append_assoc]
      exact (ih b l x h).append_left m
theorem lt2_snoc {i : Nat} {l : List Row} {r : Row} (h : LT2 l) (hl : ∀ x ∈ l, x.time < i) (hr : r.time = i) : LT2 (l ++ [r]) := by
  unfold LT2 at *
  rw [List.pairwise_append]
  exact ⟨h, List.pairwise_singleton _ _, fun a ha b hb => by
    rw [List.mem_singleton] at hb
    subst hb
    have := hl a ha
    omega⟩
theorem Deal.add {i : Nat} {rs : List (List Row)} {al : List Row} (h : Deal i rs al) (hi : i < 1024) {k : Nat} {l : List Row} (hl : rs[k]? = some l) {r : Row} (ho : r.ok = true) (hr : r.time = i) : Deal (i + 1) (rs.set k (l ++ [r])) (al ++ [r]) := by
  have hmem : ∀ x ∈ l, x ∈ al := fun x hx => h.perm.subset (List.mem_flatten.2 ⟨l, List.mem_of_getElem? hl, hx⟩)
  refine ⟨(flatten_add rs k l r hl).trans (h.perm.append_right [r]), fun x hx => ?_, lt2_snoc h.upA (fun x hx => (h.ok x hx).2) hr, fun m hm => ?_, ?_, ?_⟩
  · rcases List.mem_append.1 hx with hx | hx
    · exact ⟨(h.ok x hx).1, by have := (h.ok x hx).2; omega⟩
    · rw [List.mem_singleton] at hx
      subst hx
      exact ⟨ho, by omega⟩
  · rcases mem_set_cases hm with hm | rfl
    · exact h.upL m hm
    · exact lt2_snoc (h.upL l (List.mem_of_getElem? hl)) (fun x hx => (h.ok x (hmem x hx)).2) hr
  · have := h.cnt2
    rw [List.length_append]
    simp only [List.length_singleton]
    omega
  · have := h.cnt2
    rw [List.length_append]
    simp only [List.length_singleton]
    omega
theorem before_time {a b : Row} (h : a.time < b.time) : before 1 b a = false := by
  rw [before_one, if_neg (by omega)]
  simp
  omega
theorem Deal.chk {i : Nat} {rs : List (List Row)} {al : List Row} (h : Deal i rs al) : chk 1 rs = 0 := by
  unfold Go.Proofs.Ytgcfpepaapdjoaa.chk
  refine firstI_zero fun j hj => ?_
  obtain ⟨l, hl⟩ : ∃ l, rs[j]? = some l := ⟨_, List.getElem?_eq_getElem hj⟩
  rw [List.getD_eq_getElem?_getD, hl]
  show listErr 1 l = 0
  refine firstI_zero fun q hq => ?_
  have hm : ∀ x ∈ l, x ∈ al := fun x hx => h.perm.subset (List.mem_flatten.2 ⟨l, List.mem_of_getElem? hl, hx⟩)
  have hat : ∀ p, p < l.length → ∃ h : p < l.length, rowAt' l p = l[p] := fun p hp => ⟨hp, by
    have := rowAt'_some hp
    rw [List.getElem?_eq_getElem hp] at this
    exact (Option.some.inj this).symm⟩
  obtain ⟨_, e1⟩ := hat q hq
  unfold errAt
  rw [e1, if_neg (by rw [(h.ok _ (hm _ (List.getElem_mem hq))).1]; decide), if_neg]
  rintro ⟨h0, h1⟩
  obtain ⟨hq1, e2⟩ := hat (q - 1) (by omega)
  rw [e2, before_time (List.pairwise_iff_getElem.1 (h.upL l (List.mem_of_getElem? hl)) (q - 1) q hq1 hq (by omega))] at h1
  cases h1
/-- The merge gives the list back. -/
theorem Deal.merged {i : Nat} {rs : List (List Row)} {al : List Row} (h : Deal i rs al) {out : List Nm} (hs : IsSorted 1 rs.flatten out) : out.map Nm.row = al := by
  have hp : (out.map Nm.row).Perm al := by
    have h1 := hs.1.map Nm.row
    rw [nums_rows] at h1
    exact h1.trans h.perm
  have hps : (out.map Nm.row).Pairwise fun a b => before 1 b a = false := by
    rw [List.pairwise_map]
    refine hs.2.imp fun {a b} hab => ?_
    unfold ltN at hab
    unfold before
    split at hab
    · cases hab
    · rename_i hn; simpa using hn
  have hpa : al.Pairwise fun a b => before 1 b a = false := h.upA.imp fun hab => before_time hab
  refine List.Perm.eq_of_pairwise (le := fun a b => before 1 b a = false) (fun a b ha hb h1 h2 => ?_) hps hpa hp
  have hb' : b ∈ al := hb
  have ha' : a ∈ al := hp.subset ha
  have ht : a.time = b.time := by
    rw [before_one] at h1 h2
    by_cases e : a.time = b.time
    · exact e
    · rw [if_neg (Ne.symm e)] at h1
      rw [if_neg e] at h2
      simp at h1 h2
      omega
  obtain ⟨p, hpp⟩ := List.mem_iff_getElem?.1 ha'
  obtain ⟨q, hq⟩ := List.mem_iff_getElem?.1 hb'
  obtain ⟨hpl, rfl⟩ := List.getElem?_eq_some_iff.1 hpp
  obtain ⟨hql, rfl⟩ := List.getElem?_eq_some_iff.1 hq
  by_cases e : p = q
  · subst e; rfl
  · exfalso
    have hlt := List.pairwise_iff_getElem.1 h.upA
    rcases Nat.lt_or_gt_of_ne e with e | e
    · have := hlt p q hpl hql e; omega
    · have := hlt q p hql hpl e; omega
theorem Deal.small {i : Nat} {rs : List (List Row)} {al : List Row} (h : Deal i rs al) : rs.flatten.length ≤ 1024 := by rw [h.perm.length_eq]; exact h.cnt
end Go.Proofs.Ytgcfpepaapdjoaa
