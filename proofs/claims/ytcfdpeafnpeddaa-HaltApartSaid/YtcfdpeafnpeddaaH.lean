/- The tree of stops as a list, told with no program in sight. -/
import Derived.Test.YtcfdpeafnpeddaaLib
namespace Go.Proofs.Ytcfdpeafnpeddaa
set_option linter.unusedVariables false
set_option linter.unusedSimpArgs false
open Go.RowKit

structure St where
  par : Int
  left : Int
  cause : Int
def St.cells (s : St) : List Value := [.int .i64 s.par, .int .i64 s.left, .int .i64 s.cause]
theorem St.cells_length (s : St) : s.cells.length = 3 := rfl
def St.none : St := ⟨-1, 0, 0⟩
def ns (st : List St) (k : Nat) : St := st.getD k St.none
theorem ns_some {st : List St} {k : Nat} (h : k < st.length) : st[k]? = some (ns st k) := by
  unfold ns
  rw [List.getD_eq_getElem?_getD, List.getElem?_eq_getElem h]
  rfl
theorem ns_out {st : List St} {k : Nat} (h : st.length ≤ k) : ns st k = St.none := by
  unfold ns
  rw [List.getD_eq_getElem?_getD, List.getElem?_eq_none h]
  rfl
theorem ns_set (st : List St) (i j : Nat) (s : St) (hi : i < st.length) : ns (st.set i s) j = if j = i then s else ns st j := by
  unfold ns
  rw [List.getD_eq_getElem?_getD, List.getD_eq_getElem?_getD]
  by_cases e : j = i
  · subst e
    rw [if_pos rfl, List.getElem?_set_self hi]
    rfl
  · rw [if_neg e, List.getElem?_set_ne (fun h => e h.symm)]
theorem ns_ext {a b : List St} (hl : a.length = b.length) (h : ∀ k, k < a.length → ns a k = ns b k) : a = b := by
  apply List.ext_getElem?
  intro k
  by_cases hk : k < a.length
  · rw [ns_some hk, ns_some (by omega), h k hk]
  · rw [List.getElem?_eq_none (by omega), List.getElem?_eq_none (by omega)]
/-- A list of stops by the places. -/
def mk (f : Nat → St) (n : Nat) : List St := (List.range n).map f
theorem mk_length (f : Nat → St) (n : Nat) : (mk f n).length = n := by simp [mk]
theorem mk_ns (f : Nat → St) (n k : Nat) (h : k < n) : ns (mk f n) k = f k := by
  unfold ns mk
  rw [List.getD_eq_getElem?_getD, List.getElem?_map, List.getElem?_range h]
  rfl
/-- Stop k is stop i or lies below it. -/
inductive Under (st : List St) (i : Nat) : Nat → Prop
  | self : Under st i i
  | step {k p : Nat} (h : (ns st k).par = (p : Int)) (u : Under st i p) : Under st i k
structure Wf (st : List St) : Prop where
  par : ∀ k, k < st.length → (ns st k).par < k
  zero : ∀ k, k < st.length → 0 < k → 0 ≤ (ns st k).par
  root : (ns st 0).par = -1
theorem Under.le {st : List St} (h : Wf st) {i k : Nat} (u : Under st i k) : i ≤ k := by
  induction u with
  | self => exact Nat.le_refl _
  | @step k p hp u ih =>
    by_cases hk : k < st.length
    · have := h.par k hk
      omega
    · rw [ns_out (by omega)] at hp
      simp [St.none] at hp
theorem Under.lt {st : List St} (h : Wf st) {i k : Nat} (u : Under st i k) (hi : i < st.length) : k < st.length := by
  cases u with
  | self => exact hi
  | @step _ p hp u =>
    by_cases hk : k < st.length
    · exact hk
    · rw [ns_out (by omega)] at hp
      simp [St.none] at hp
theorem under_iff {st : List St} {i k : Nat} : Under st i k ↔ k = i ∨ ∃ p : Nat, (ns st k).par = p ∧ Under st i p := by
  constructor
  · intro u
    cases u with
    | self => exact .inl rfl
    | step h u => exact .inr ⟨_, h, u⟩
  · rintro (rfl | ⟨p, h, u⟩)
    · exact .self
    · exact .step h u
theorem Under.trans {st : List St} {i j k : Nat} (u : Under st i j) (v : Under st j k) : Under st i k := by
  induction v with
  | self => exact u
  | step h _ ih => exact .step h ih
/-- Below i and not i: below one of its kids. -/
theorem under_kid {st : List St} {i k : Nat} (u : Under st i k) : k = i ∨ ∃ j, (ns st j).par = (i : Int) ∧ Under st j k := by
  induction u with
  | self => exact .inl rfl
  | @step k p h u ih =>
    rcases ih with rfl | ⟨j, hj, v⟩
    · exact .inr ⟨k, h, .self⟩
    · exact .inr ⟨j, hj, .step h v⟩
theorem under_line {st : List St} {i j k : Nat} (u : Under st i k) (v : Under st j k) : Under st i j ∨ Under st j i := by
  induction u with
  | self => exact .inr v
  | @step k p h u ih =>
    cases v with
    | self => exact .inl (.step h u)
    | @step _ q h' v =>
      have : q = p := by omega
      subst this
      exact ih v
theorem under_congr {st st' : List St} (h : ∀ k, (ns st' k).par = (ns st k).par) {i k : Nat} : Under st' i k ↔ Under st i k := by
  constructor
  · intro u
    induction u with
    | self => exact .self
    | step hp _ ih => exact .step (by rw [← h]; exact hp) ih
  · intro u
    induction u with
    | self => exact .self
    | step hp _ ih => exact .step (by rw [h]; exact hp) ih

open Classical in
/-- What a stop's end does to stop k. -/
noncomputable def endAt (st : List St) (i : Nat) (c : Int) (k : Nat) : St := if (ns st k).cause = 0 ∧ Under st i k then { ns st k with cause := if k = i then c else 3 } else ns st k
noncomputable def endS (st : List St) (i : Nat) (c : Int) : List St := mk (endAt st i c) st.length
theorem endS_length (st : List St) (i : Nat) (c : Int) : (endS st i c).length = st.length := mk_length _ _
theorem endS_ns (st : List St) (i : Nat) (c : Int) (k : Nat) (h : k < st.length) : ns (endS st i c) k = endAt st i c k := mk_ns _ _ _ h
theorem endAt_par (st : List St) (i : Nat) (c : Int) (k : Nat) : (endAt st i c k).par = (ns st k).par := by
  unfold endAt
  split <;> rfl
theorem endAt_left (st : List St) (i : Nat) (c : Int) (k : Nat) : (endAt st i c k).left = (ns st k).left := by
  unfold endAt
  split <;> rfl
theorem endS_par (st : List St) (i : Nat) (c : Int) (k : Nat) : (ns (endS st i c) k).par = (ns st k).par := by
  by_cases h : k < st.length
  · rw [endS_ns _ _ _ _ h, endAt_par]
  · rw [ns_out (by rw [endS_length]; omega), ns_out (by omega)]
theorem endS_left (st : List St) (i : Nat) (c : Int) (k : Nat) : (ns (endS st i c) k).left = (ns st k).left := by
  by_cases h : k < st.length
  · rw [endS_ns _ _ _ _ h, endAt_left]
  · rw [ns_out (by rw [endS_length]; omega), ns_out (by omega)]
/-- Below stop i: a stop whose parent is stopped is stopped. -/
def Cons (st : List St) (i : Nat) : Prop := ∀ k p : Nat, Under st i p → (ns st k).par = p → (ns st p).cause ≠ 0 → (ns st k).cause ≠ 0
theorem Cons.all {st : List St} {i : Nat} (h : Cons st i) (hi : (ns st i).cause ≠ 0) {k : Nat} (u : Under st i k) : (ns st k).cause ≠ 0 := by
  induction u with
  | self => exact hi
  | @step k p hp u ih => exact h k p u hp ih
/-- A stopped stop's end does nothing. -/
theorem endS_dead {st : List St} {i : Nat} (h : Cons st i) (hi : (ns st i).cause ≠ 0) (c : Int) : endS st i c = st := by
  refine ns_ext (endS_length _ _ _) fun k hk => ?_
  rw [endS_length] at hk
  rw [endS_ns _ _ _ _ hk]
  unfold endAt
  rw [if_neg]
  rintro ⟨h0, u⟩
  exact h.all hi u h0

/-! ### the end by the kids, one behind the other -/
open Classical in
/-- Behind the first of the kids: stop i has its cause, what is below the kids is stopped. -/
noncomputable def kidAt (st : List St) (i : Nat) (c : Int) (ks : List Nat) (k : Nat) : St :=
  if (ns st k).cause = 0 ∧ k = i then { ns st k with cause := c } else if (ns st k).cause = 0 ∧ ∃ j ∈ ks, Under st j k then { ns st k with cause := 3 } else ns st k
noncomputable def kidS (st : List St) (i : Nat) (c : Int) (ks : List Nat) : List St := mk (kidAt st i c ks) st.length
theorem kidS_length (st : List St) (i : Nat) (c : Int) (ks : List Nat) : (kidS st i c ks).length = st.length := mk_length _ _
theorem kidS_ns (st : List St) (i : Nat) (c : Int) (ks : List Nat) (k : Nat) (h : k < st.length) : ns (kidS st i c ks) k = kidAt st i c ks k := mk_ns _ _ _ h
theorem kidAt_par (st : List St) (i : Nat) (c : Int) (ks : List Nat) (k : Nat) : (kidAt st i c ks k).par = (ns st k).par := by
  unfold kidAt
  split
  · rfl
  · split <;> rfl
theorem kidAt_left (st : List St) (i : Nat) (c : Int) (ks : List Nat) (k : Nat) : (kidAt st i c ks k).left = (ns st k).left := by
  unfold kidAt
  split
  · rfl
  · split <;> rfl
theorem kidS_par (st : List St) (i : Nat) (c : Int) (ks : List Nat) (k : Nat) : (ns (kidS st i c ks) k).par = (ns st k).par := by
  by_cases h : k < st.length
  · rw [kidS_ns _ _ _ _ _ h, kidAt_par]
  · rw [ns_out (by rw [kidS_length]; omega), ns_out (by omega)]
theorem kidS_nil (st : List St) (i : Nat) (c : Int) (hi : i < st.length) (h0 : (ns st i).cause = 0) : kidS st i c [] = st.set i { ns st i with cause := c } := by
  refine ns_ext (by rw [kidS_length, List.length_set]) fun k hk => ?_
  rw [kidS_length] at hk
  rw [kidS_ns _ _ _ _ _ hk, ns_set _ _ _ _ hi]
  unfold kidAt
  by_cases e : k = i
  · subst e; rw [if_pos ⟨h0, rfl⟩, if_pos rfl]
  · rw [if_neg (fun h => e h.2), if_neg (by simp), if_neg e]
theorem kidS_all {st : List St} (hw : Wf st) (i : Nat) (c : Int) (ks : List Nat) (hk : ∀ j, j ∈ ks ↔ j < st.length ∧ (ns st j).par = (i : Int)) : kidS st i c ks = endS st i c := by
  refine ns_ext (by rw [kidS_length, endS_length]) fun k hkl => ?_
  rw [kidS_length] at hkl
  rw [kidS_ns _ _ _ _ _ hkl, endS_ns _ _ _ _ hkl]
  unfold kidAt endAt
  by_cases h0 : (ns st k).cause = 0
  · by_cases e : k = i
    · subst e
      rw [if_pos ⟨h0, rfl⟩, if_pos ⟨h0, .self⟩, if_pos rfl]
    · rw [if_neg (fun h => e h.2)]
      by_cases u : Under st i k
      · have ex : (ns st k).cause = 0 ∧ ∃ j ∈ ks, Under st j k := by
         refine ⟨h0, ?_⟩
         rcases under_kid u with e' | ⟨j, hj, v⟩
         · exact absurd e' e
         · have hjl : j < st.length := by
             by_cases hjl : j < st.length
             · exact hjl
             · rw [ns_out (by omega)] at hj
               simp [St.none] at hj
           exact ⟨j, (hk j).2 ⟨hjl, hj⟩, v⟩
        rw [if_pos ex, if_pos ⟨h0, u⟩, if_neg e]
      · have ex : ¬ ((ns st k).cause = 0 ∧ ∃ j ∈ ks, Under st j k) := by
          rintro ⟨-, j, hj, v⟩
          exact u ((Under.step ((hk j).1 hj).2 .self).trans v)
        rw [if_neg ex, if_neg (fun h => u h.2)]
  · rw [if_neg (fun h => h0 h.1), if_neg (fun h => h0 h.1), if_neg (fun h => h0 h.1)]
/-- One kid more. -/
theorem kidS_snoc {st : List St} (hw : Wf st) (i : Nat) (c : Int) (ks : List Nat) (j : Nat) (hj : (ns st j).par = (i : Int)) (hn : ∀ j', j' ∈ ks → (ns st j').par = (i : Int) ∧ j' ≠ j) (hjl : j < st.length) :
    endS (kidS st i c ks) j 3 = kidS st i c (ks ++ [j]) ∧ (Cons st i → Cons (kidS st i c ks) j) := by
  have hu : ∀ {a b : Nat}, Under (kidS st i c ks) a b ↔ Under st a b := fun {a b} => under_congr (kidS_par st i c ks)
  have hij : i < j := by have := hw.par j hjl; omega
  have apart : ∀ j', j' ∈ ks → ∀ k, Under st j' k → Under st j k → False := by
    intro j' hj' k u v
    obtain ⟨h1, h2⟩ := hn j' hj'
    have key : ∀ a b : Nat, (ns st a).par = (i : Int) → (ns st b).par = (i : Int) → a ≠ b → Under st a b → False := by
      intro a b ha hb hne u
      rcases under_iff.1 u with e | ⟨p, hp, v⟩
      · exact hne e.symm
      · have : p = i := by omega
        subst this
        have := v.le hw
        by_cases hal : a < st.length
        · have := hw.par a hal; omega
        · rw [ns_out (by omega)] at ha; simp [St.none] at ha
    rcases under_line u v with h | h
    · exact key _ _ h1 hj h2 h
    · exact key _ _ hj h1 (Ne.symm h2) h
  have noI : ¬ Under st j i := fun u => by have := u.le hw; omega
  have same : ∀ k, Under st j k → ns (kidS st i c ks) k = ns st k := by
    intro k u
    have hkl := u.lt hw hjl
    rw [kidS_ns _ _ _ _ _ hkl]
    unfold kidAt
    rw [if_neg (fun h => noI (by rw [← h.2]; exact u)), if_neg]
    rintro ⟨-, j', hj', v⟩
    exact apart j' hj' k v u
  constructor
  · refine ns_ext (by rw [endS_length, kidS_length, kidS_length]) fun k hk => ?_
    rw [endS_length] at hk
    have hk' : k < st.length := by rw [kidS_length] at hk; exact hk
    rw [endS_ns _ _ _ _ hk, kidS_ns _ _ _ _ _ hk']
    unfold endAt
    by_cases u : Under st j k
    · rw [same k u]
      by_cases h0 : (ns st k).cause = 0
      · have kA : kidAt st i c (ks ++ [j]) k = { ns st k with cause := 3 } := by
          unfold kidAt
          rw [if_neg (fun h => noI (by rw [← h.2]; exact u)), if_pos ⟨h0, j, by simp, u⟩]
        rw [if_pos ⟨h0, hu.2 u⟩, kA]
        split <;> rfl
      · rw [if_neg (fun h => h0 h.1)]
        unfold kidAt
        rw [if_neg (fun h => h0 h.1), if_neg (fun h => h0 h.1)]
    · rw [if_neg (fun h => u (hu.1 h.2)), kidS_ns _ _ _ _ _ hk']
      have ex : (∃ j' ∈ ks, Under st j' k) ↔ ∃ j' ∈ ks ++ [j], Under st j' k := by
        constructor
        · rintro ⟨j', h1, v⟩; exact ⟨j', by simp [h1], v⟩
        · rintro ⟨j', h1, v⟩
          rcases List.mem_append.1 h1 with h3 | h3
          · exact ⟨j', h3, v⟩
          · simp at h3
            subst h3
            exact absurd v u
      unfold kidAt
      by_cases h1 : (ns st k).cause = 0 ∧ k = i
      · rw [if_pos h1, if_pos h1]
      · rw [if_neg h1, if_neg h1]
        by_cases h2 : (ns st k).cause = 0 ∧ ∃ j ∈ ks, Under st j k
        · rw [if_pos h2, if_pos ⟨h2.1, ex.1 h2.2⟩]
        · rw [if_neg h2, if_neg (fun h => h2 ⟨h.1, ex.2 h.2⟩)]
  · intro hc k p up hp hpc
    have up' := hu.1 up
    have hp' : (ns st k).par = p := by rw [← kidS_par st i c ks]; exact hp
    rw [same p up'] at hpc
    rw [same k (.step hp' up')]
    exact hc k p ((Under.step hj .self).trans up') hp' hpc

/-! ### the document's pass -/
open Classical in
noncomputable def passAt (st : List St) (i : Nat) (c : Int) (m k : Nat) : St := if k < m then endAt st i c k else ns st k
noncomputable def passS (st : List St) (i : Nat) (c : Int) (m : Nat) : List St := mk (passAt st i c m) st.length
theorem passS_length (st : List St) (i : Nat) (c : Int) (m : Nat) : (passS st i c m).length = st.length := mk_length _ _
theorem passS_ns (st : List St) (i : Nat) (c : Int) (m k : Nat) (h : k < st.length) : ns (passS st i c m) k = passAt st i c m k := mk_ns _ _ _ h
theorem passS_first {st : List St} (hw : Wf st) (i : Nat) (c : Int) (hi : i < st.length) (h0 : (ns st i).cause = 0) : passS st i c (i + 1) = st.set i { ns st i with cause := c } := by
  refine ns_ext (by rw [passS_length, List.length_set]) fun k hk => ?_
  rw [passS_length] at hk
  rw [passS_ns _ _ _ _ _ hk, ns_set _ _ _ _ hi]
  unfold passAt endAt
  by_cases e : k = i
  · subst e; rw [if_pos (by omega), if_pos ⟨h0, .self⟩, if_pos rfl, if_pos rfl]
  · by_cases hl : k < i + 1
    · have nu : ¬ ((ns st k).cause = 0 ∧ Under st i k) := by
        rintro ⟨-, u⟩
        have := u.le hw
        omega
      rw [if_pos hl, if_neg nu, if_neg e]
    · rw [if_neg hl, if_neg e]
theorem passS_last (st : List St) (i : Nat) (c : Int) : passS st i c st.length = endS st i c := by
  refine ns_ext (by rw [passS_length, endS_length]) fun k hk => ?_
  rw [passS_length] at hk
  rw [passS_ns _ _ _ _ _ hk, endS_ns _ _ _ _ hk]
  unfold passAt
  rw [if_pos hk]
/-- Every stop whose parent is stopped is stopped. -/
def Con (st : List St) : Prop := ∀ k p : Nat, (ns st k).par = p → (ns st p).cause ≠ 0 → (ns st k).cause ≠ 0
theorem Con.cons {st : List St} (h : Con st) (i : Nat) : Cons st i := fun k p _ hp hc => h k p hp hc
theorem passS_step {st : List St} (hw : Wf st) (hc : Con st) (i : Nat) (c : Int) (c0 : c ≠ 0) (m : Nat) (hm : i < m) (hml : m < st.length) :
    ∃ p : Nat, (ns st m).par = p ∧ p < m ∧ ns (passS st i c m) m = ns st m ∧
      passS st i c (m + 1) = if (ns st m).cause = 0 ∧ (ns (passS st i c m) p).cause ≠ 0 then (passS st i c m).set m { ns st m with cause := 3 } else passS st i c m := by
  have h1 := hw.zero m hml (by omega)
  have h2 := hw.par m hml
  refine ⟨(ns st m).par.toNat, by omega, by omega, ?_, ?_⟩
  · rw [passS_ns _ _ _ _ _ hml]; unfold passAt; rw [if_neg (by omega)]
  obtain ⟨p, hp⟩ : ∃ p : Nat, (ns st m).par = p := ⟨(ns st m).par.toNat, by omega⟩
  rw [hp, show ((p : Int)).toNat = p from by omega]
  have hpm : p < m := by omega
  have ep : ns (passS st i c m) p = endAt st i c p := by rw [passS_ns _ _ _ _ _ (by omega)]; unfold passAt; rw [if_pos hpm]
  rw [ep]
  have um : Under st i m ↔ Under st i p := by
    constructor
    · intro u
      rcases under_iff.1 u with e | ⟨q, hq, v⟩
      · omega
      · have : q = p := by omega
        subst this; exact v
    · intro u; exact .step hp u
  have key : ((ns st m).cause = 0 ∧ (endAt st i c p).cause ≠ 0) ↔ ((ns st m).cause = 0 ∧ Under st i m) := by
    constructor
    · rintro ⟨h0, h3⟩
      refine ⟨h0, um.2 ?_⟩
      unfold endAt at h3
      split at h3
      · rename_i h4; exact h4.2
      · exact absurd h0 (hc m p hp h3)
    · rintro ⟨h0, u⟩
      refine ⟨h0, ?_⟩
      unfold endAt
      split
      · simp only; split <;> omega
      · rename_i h4
        intro h5
        exact h4 ⟨h5, um.1 u⟩
  refine ns_ext (by rw [passS_length]; split <;> simp [passS_length]) fun k hk => ?_
  rw [passS_length] at hk
  rw [passS_ns _ _ _ _ _ hk]
  by_cases hkey : (ns st m).cause = 0 ∧ Under st i m
  · rw [if_pos (key.2 hkey), ns_set _ _ _ _ (by rw [passS_length]; exact hml), passS_ns _ _ _ _ _ hk]
    unfold passAt
    by_cases e : k = m
    · subst e
      rw [if_pos (by omega), if_pos rfl]
      unfold endAt
      rw [if_pos hkey, if_neg (by omega)]
    · rw [if_neg e]
      by_cases hl : k < m
      · rw [if_pos (by omega), if_pos hl]
      · rw [if_neg (by omega), if_neg hl]
  · rw [if_neg (fun h => hkey (key.1 h)), passS_ns _ _ _ _ _ hk]
    unfold passAt
    by_cases e : k = m
    · subst e
      rw [if_pos (by omega), if_neg (by omega)]
      unfold endAt
      rw [if_neg hkey]
    · by_cases hl : k < m
      · rw [if_pos (by omega), if_pos hl]
      · rw [if_neg (by omega), if_neg hl]
/-- Behind an end the list is as right as before. -/
theorem endS_wf {st : List St} (hw : Wf st) (i : Nat) (c : Int) : Wf (endS st i c) := by
  refine ⟨fun k hk => ?_, fun k hk h0 => ?_, ?_⟩
  · rw [endS_par]; exact hw.par k (by rw [endS_length] at hk; exact hk)
  · rw [endS_par]; exact hw.zero k (by rw [endS_length] at hk; exact hk) h0
  · rw [endS_par]; exact hw.root
theorem endS_con {st : List St} (hw : Wf st) (hc : Con st) (i : Nat) (c : Int) (c0 : c ≠ 0) : Con (endS st i c) := by
  intro k p hp hpc
  rw [endS_par] at hp
  by_cases hk : k < st.length
  · have hpl : p < st.length := by have := hw.par k hk; omega
    rw [endS_ns _ _ _ _ hpl] at hpc
    rw [endS_ns _ _ _ _ hk]
    unfold endAt at hpc ⊢
    by_cases h0 : (ns st k).cause = 0
    · have u : Under st i p := by
        split at hpc
        · rename_i h; exact h.2
        · exact absurd h0 (hc k p hp hpc)
      rw [if_pos ⟨h0, .step hp u⟩]
      simp only
      split <;> omega
    · rw [if_neg (fun h => h0 h.1)]
      exact h0
  · rw [ns_out (by omega)] at hp
    simp [St.none] at hp
end Go.Proofs.Ytcfdpeafnpeddaa
