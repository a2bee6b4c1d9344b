/- Do keeps what always holds. -/
import Derived.Test.YtfodagidmdbmlaaMO
namespace Go.Proofs.Ytfodagidmdbmlaa
set_option linter.unusedVariables false
set_option linter.unusedSimpArgs false
open Go.RowKit

theorem tick_ok {M : Mach} {g : Int} (h : MOK M) (h0 : 0 ≤ g) (h1 : M.clock + 1 + g ≤ 1099511627776) : MOK (tick M g) := ⟨tick_inv h.inv h0 h1, h.live, h.bal, h.endl, h.seqb⟩
theorem act_set {y : Option Nat × Int} : ∀ {l : List (Option Nat × Int)} {s : Nat} {x : Option Nat × Int}, l[s]? = some x → nAct (l.set s y) + (if x.1.isSome then 1 else 0) = nAct l + (if y.1.isSome then 1 else 0) := by
  intro l
  induction l with
  | nil => intro s x h; simp at h
  | cons a l ih =>
    intro s x h
    cases s with
    | zero =>
      simp at h
      subst h
      show nAct (y :: l) + _ = nAct (a :: l) + _
      unfold nAct
      rw [List.filter_cons, List.filter_cons]
      cases y.1.isSome <;> cases a.1.isSome <;> simp <;> omega
    | succ s =>
      have h := ih (s := s) (x := x) (by simpa using h)
      show nAct (a :: l.set s y) + _ = nAct (a :: l) + _
      unfold nAct at h ⊢
      rw [List.filter_cons, List.filter_cons]
      cases a.1.isSome <;> simp <;> omega
theorem all_set {M : Mach} {j : Nat} {r' : Run} {i : Nat} {x : Run} (h : (M.all.set j r')[i]? = some x) : (i = j ∧ x = r') ∨ (i ≠ j ∧ M.all[i]? = some x) := by
  rw [List.getElem?_set] at h
  by_cases e : j = i
  · rw [if_pos e] at h
    by_cases e2 : j < M.all.length
    · rw [if_pos e2] at h
      cases h
      exact .inl ⟨e.symm, rfl⟩
    · rw [if_neg e2] at h
      cases h
  · rw [if_neg e] at h
    exact .inr ⟨Ne.symm e, h⟩
theorem putR_ok {M : Mach} (h : MOK M) {j : Nat} {r r' : Run} (hr : M.all[j]? = some r) (h1 : r'.session = r.session) (h2 : r'.ops.length ≤ 16) (h3 : r'.times.length = r'.ops.length) (h4 : OpsOK r') : MOK (putR M j r') := by
  refine ⟨⟨h.inv.c0, h.inv.c1, by show (M.all.set j r').length ≤ 4096; rw [List.length_set]; exact h.inv.cnt, h.inv.n0, fun i x hx => ?_, fun i x hx => ?_, h.inv.inc, h.inv.top, fun s i q hs => ?_⟩, h.live, by show _ = (M.all.set j r').length; rw [List.length_set]; exact h.bal, fun i hi => by show i < (M.all.set j r').length; rw [List.length_set]; exact h.endl i hi, fun s o q hs => by show 0 ≤ q ∧ q ≤ ((M.all.set j r').length : Int); rw [List.length_set]; exact h.seqb s o q hs⟩
  · rcases all_set hx with ⟨-, rfl⟩ | ⟨-, hx⟩
    · exact ⟨h2, h3⟩
    · exact h.inv.ops i x hx
  · rcases all_set hx with ⟨-, rfl⟩ | ⟨-, hx⟩
    · exact h4
    · exact h.inv.keys i x hx
  · obtain ⟨x, hx, hxs⟩ := h.inv.now s i q hs
    by_cases e : i = j
    · subst e
      rw [hr] at hx
      cases hx
      refine ⟨r', ?_, h1.trans hxs⟩
      show (M.all.set i r')[i]? = _
      rw [List.getElem?_set, if_pos rfl, if_pos (List.getElem?_eq_some_iff.1 hr).1]
    · refine ⟨x, ?_, hxs⟩
      show (M.all.set j r')[i]? = _
      rw [List.getElem?_set, if_neg (Ne.symm e)]
      exact hx
/-- What the end of a transaction leaves of a key. -/
theorem finF_st {M : Mach} (h : MInv M) {s j : Nat} {r : Run} (b : Bool) (hr : M.all[j]? = some r) (ht : ∀ k, ∀ x ∈ M.st.2 k, x.commit < M.clock) (k : ByteArray) :
    (finF M s j b).st.2 k = if b = true ∧ wroteK r k = true then M.st.2 k ++ [leaves M.clock j r k] else M.st.2 k := by
  have hgr : M.all.getD j Run.zero = r := by rw [List.getD_eq_getElem?_getD, hr]; rfl
  unfold finF
  rw [hgr]
  cases b with
  | false =>
    show M.st.2 k = _
    rw [if_neg (fun h => by cases h.1)]
  | true =>
    show (instN M.st M.clock j r r.ops.length).2 k = _
    rw [instN_spec (h.keys j r hr) ⟨h.c0, h.c1⟩ (Nat.lt_of_lt_of_le (List.getElem?_eq_some_iff.1 hr).1 h.cnt) ht]
    by_cases e : countN r k r.ops.length = 0
    · rw [if_pos e, if_neg (by rw [(countN_all r k).1 e]; simp)]
    · rw [if_neg e, if_pos ⟨rfl, by
        cases hw : wroteK r k with
        | true => rfl
        | false => exact absurd ((countN_all r k).2 hw) e⟩]
theorem finF_ok {M : Mach} (h : MOK M) {s j : Nat} {q : Int} {r : Run} (b : Bool) (hx : M.sess[s]? = some (some j, q)) (hr : M.all[j]? = some r) (ht : ∀ k, ∀ x ∈ M.st.2 k, x.commit < M.clock) : MOK (finF M s j b) := by
  have hgr : M.all.getD j Run.zero = r := by rw [List.getD_eq_getElem?_getD, hr]; rfl
  have hgs : M.sess.getD s (none, 0) = (some j, q) := by rw [List.getD_eq_getElem?_getD, hx]; rfl
  have hjl := (List.getElem?_eq_some_iff.1 hr).1
  have hsl := (List.getElem?_eq_some_iff.1 hx).1
  have rj : ∀ (t i : Nat) (x : Int), (finF M s j b).sess[t]? = some (some i, x) → t ≠ s ∧ M.sess[t]? = some (some i, x) := fun t i x ht => by
    have ht : (M.sess.set s (none, (M.sess.getD s (none, 0)).2))[t]? = some (some i, x) := ht
    rw [List.getElem?_set] at ht
    by_cases e : s = t
    · rw [if_pos e, if_pos hsl] at ht
      cases ht
    · rw [if_neg e] at ht
      exact ⟨Ne.symm e, ht⟩
  -- no other session has it
  have other : ∀ (t : Nat) (x : Int), t ≠ s → M.sess[t]? ≠ some (some j, x) := fun t x hts ht => by
    obtain ⟨r1, h1, h2⟩ := h.inv.now s j q hx
    obtain ⟨r2, h3, h4⟩ := h.inv.now t j x ht
    rw [h1] at h3
    cases h3
    rw [h2] at h4
    omega
  refine ⟨⟨h.inv.c0, h.inv.c1, by show (M.all.set j _).length ≤ 4096; rw [List.length_set]; exact h.inv.cnt, by show (M.sess.set s _).length ≤ 64; rw [List.length_set]; exact h.inv.n0, fun i x hi => ?_, fun i x hi => ?_, fun k => ?_, fun k x hk => ?_, fun t i x ht => ?_⟩, fun t i x ht => ?_, ?_, fun i hi => ?_, fun t o x ht => ?_⟩
  · rcases all_set (M := M) hi with ⟨-, rfl⟩ | ⟨-, hi⟩
    · rw [hgr]; exact h.inv.ops j r hr
    · exact h.inv.ops i x hi
  · rcases all_set (M := M) hi with ⟨-, rfl⟩ | ⟨-, hi⟩
    · rw [hgr]; exact h.inv.keys j r hr
    · exact h.inv.keys i x hi
  · rw [finF_st h.inv b hr ht]
    split
    · rw [List.pairwise_append]
      refine ⟨h.inv.inc k, List.pairwise_singleton _ _, fun x hx y hy => ?_⟩
      rw [List.mem_singleton] at hy
      subst hy
      exact ht k x hx
    · exact h.inv.inc k
  · rw [finF_st h.inv b hr ht] at hk
    split at hk
    · rcases List.mem_append.1 hk with hk | hk
      · exact h.inv.top k x hk
      · rw [List.mem_singleton] at hk
        subst hk
        exact Int.le_refl _
    · exact h.inv.top k x hk
  · obtain ⟨hts, ht⟩ := rj t i x ht
    obtain ⟨y, hy, hys⟩ := h.inv.now t i x ht
    refine ⟨y, ?_, hys⟩
    show (M.all.set j _)[i]? = _
    rw [List.getElem?_set, if_neg fun (e : j = i) => other t x hts (e ▸ ht)]
    exact hy
  · obtain ⟨hts, ht2⟩ := rj t i x ht
    show i ∉ M.ends ++ [j]
    rw [List.mem_append, List.mem_singleton]
    rintro (hi | hi)
    · exact h.live t i x ht2 hi
    · exact other t x hts (by rw [← hi]; exact ht2)
  · show (M.ends ++ [j]).length + nAct (M.sess.set s (none, (M.sess.getD s (none, 0)).2)) = (M.all.set j _).length
    rw [List.length_append, List.length_set, List.length_singleton]
    generalize (M.sess.getD s (none, 0)).2 = q0
    have h1 := act_set (y := (none, q0)) hx
    have h2 := h.bal
    simp at h1
    omega
  · have hi : i ∈ M.ends ++ [j] := hi
    show i < (M.all.set j _).length
    rw [List.length_set]
    rcases List.mem_append.1 hi with hi | hi
    · exact h.endl i hi
    · rw [List.mem_singleton] at hi
      omega
  · have ht : (M.sess.set s (none, (M.sess.getD s (none, 0)).2))[t]? = some (o, x) := ht
    show 0 ≤ x ∧ x ≤ ((M.all.set j _).length : Int)
    rw [List.length_set]
    rw [List.getElem?_set] at ht
    by_cases e : s = t
    · rw [if_pos e, if_pos hsl] at ht
      injection ht with ht
      injection ht with ht1 ht2
      rw [hgs] at ht2
      subst ht2
      exact h.seqb s _ _ hx
    · rw [if_neg e] at ht
      exact h.seqb t o x ht
theorem begin_ok {M : Mach} (h : MOK M) {s : Nat} {q : Int} (hx : M.sess[s]? = some (none, q)) (hc : M.all.length < 4096) (r : Run) (h1 : r.session = (s : Int)) (h2 : r.ops = []) (h3 : r.times = []) :
    MOK { M with sess := M.sess.set s (some M.all.length, q + 1), all := M.all ++ [r] } := by
  have hsl := (List.getElem?_eq_some_iff.1 hx).1
  have rj : ∀ (t : Nat) (o : Option Nat) (x : Int), (M.sess.set s (some M.all.length, q + 1))[t]? = some (o, x) → (t = s ∧ o = some M.all.length ∧ x = q + 1) ∨ (t ≠ s ∧ M.sess[t]? = some (o, x)) := fun t o x ht => by
    rw [List.getElem?_set] at ht
    by_cases e : s = t
    · rw [if_pos e, if_pos hsl] at ht
      cases ht
      exact .inl ⟨e.symm, rfl, rfl⟩
    · rw [if_neg e] at ht
      exact .inr ⟨Ne.symm e, ht⟩
  have ra : ∀ (i : Nat) (x : Run), (M.all ++ [r])[i]? = some x → x = r ∨ M.all[i]? = some x := fun i x hi => by
    rw [List.getElem?_append] at hi
    split at hi
    · exact .inr hi
    · have := List.mem_of_getElem? hi
      rw [List.mem_singleton] at this
      exact .inl this
  refine ⟨⟨h.inv.c0, h.inv.c1, by show (M.all ++ [r]).length ≤ 4096; rw [List.length_append, List.length_singleton]; omega, by show (M.sess.set s _).length ≤ 64; rw [List.length_set]; exact h.inv.n0, fun i x hi => ?_, fun i x hi => ?_, h.inv.inc, h.inv.top, fun t i x ht => ?_⟩, fun t i x ht => ?_, ?_, fun i hi => ?_, fun t o x ht => ?_⟩
  · rcases ra i x hi with rfl | hi
    · rw [h2, h3]; exact ⟨by simp, rfl⟩
    · exact h.inv.ops i x hi
  · rcases ra i x hi with rfl | hi
    · rw [h2]; intro o ho; cases ho
    · exact h.inv.keys i x hi
  · rcases rj t _ x ht with ⟨rfl, e, -⟩ | ⟨hts, ht⟩
    · cases e
      refine ⟨r, ?_, h1⟩
      show (M.all ++ [r])[M.all.length]? = _
      rw [List.getElem?_append_right (Nat.le_refl _), Nat.sub_self]
      rfl
    · obtain ⟨y, hy, hys⟩ := h.inv.now t i x ht
      refine ⟨y, ?_, hys⟩
      show (M.all ++ [r])[i]? = _
      rw [List.getElem?_append_left (List.getElem?_eq_some_iff.1 hy).1]
      exact hy
  · rcases rj t _ x ht with ⟨rfl, e, -⟩ | ⟨hts, ht⟩
    · cases e
      intro hi
      have := h.endl _ hi
      omega
    · exact h.live t i x ht
  · show M.ends.length + nAct (M.sess.set s (some M.all.length, q + 1)) = (M.all ++ [r]).length
    rw [List.length_append, List.length_singleton]
    have h1 := act_set (y := (some M.all.length, q + 1)) hx
    have h2 := h.bal
    simp at h1
    omega
  · have := h.endl i hi
    show i < (M.all ++ [r]).length
    rw [List.length_append]
    omega
  · show 0 ≤ x ∧ x ≤ ((M.all ++ [r]).length : Int)
    rw [List.length_append, List.length_singleton]
    rcases rj t _ x ht with ⟨-, -, rfl⟩ | ⟨-, ht⟩
    · have := h.seqb s _ _ hx
      omega
    · have := h.seqb t o x ht
      omega

end Go.Proofs.Ytfodagidmdbmlaa
