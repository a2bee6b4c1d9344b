/- What Prune leaves, on both sides. -/
import Derived.Test.YtkbnfnfjmofcmaaRx
import Derived.Test.YtkbnfnfjmofcmaaPs
namespace Go.Proofs.Ytkbnfnfjmofcmaa
set_option linter.unusedVariables false
set_option linter.unusedSimpArgs false
open Go.RowKit

theorem filter_ge {α : Type} (p : α → Bool) (l : List α) : ∀ (d : Nat), (∀ i (hi : i < l.length), p l[i] = decide (d ≤ i)) → l.filter p = l.drop d := by
  induction l with
  | nil => intro d _; simp
  | cons x l ih =>
    intro d h
    have h0 := h 0 (by simp)
    cases d with
    | zero =>
      rw [List.drop_zero]
      refine List.filter_eq_self.2 fun y hy => ?_
      obtain ⟨i, hi, rfl⟩ := List.mem_iff_getElem.1 hy
      rw [h i hi]
      simp
    | succ d =>
      have hx : p x = false := by simpa using h0
      rw [List.filter_cons, hx, List.drop_succ_cons, if_neg (by simp)]
      refine ih d fun i hi => ?_
      have := h (i + 1) (by simpa using hi)
      simpa using this
theorem above_idx {l : List Ver} (h : Inc l) {d : Nat} (hlt : d < l.length) (i : Nat) (hi : i < l.length) : aboveB l[d] l[i] = decide (i < d) := by
  by_cases hid : i < d
  · rw [decide_eq_true hid]
    exact (above_iff _ _).2 (List.pairwise_iff_getElem.1 h i d hi hlt hid)
  · rw [decide_eq_false hid]
    cases hh : aboveB l[d] l[i] with
    | false => rfl
    | true =>
      have h1 := (above_iff _ _).1 hh
      rcases Nat.lt_or_ge d i with h2 | h2
      · have h3 := List.pairwise_iff_getElem.1 h d i hlt hi h2
        unfold vlt at h1 h3
        omega
      · have : i = d := by omega
        subst this
        unfold vlt at h1
        omega
theorem filter_prn {l : List Ver} (h : Inc l) (f : Int) : (l.filter fun x => !(match atV l f with | some y => aboveB y x | none => false)) = prn f l := by
  have hc := cut_le l f
  unfold prn atV
  by_cases h1 : 1 < cut l f
  · rw [if_pos h1, if_pos (by omega)]
    have hlt : cut l f - 1 < l.length := by omega
    rw [List.getElem?_eq_getElem hlt]
    generalize hd : cut l f - 1 = d at hlt ⊢
    refine filter_ge _ _ d fun i hi => ?_
    show (!aboveB l[d] l[i]) = _
    rw [above_idx h hlt i hi]
    by_cases hid : i < d
    · simp [hid]
    · simp [hid]; omega
  · rw [if_neg h1]
    by_cases h0 : 0 < cut l f
    · rw [if_pos h0]
      have hlt : cut l f - 1 < l.length := by omega
      rw [List.getElem?_eq_getElem hlt]
      generalize hd : cut l f - 1 = d at hlt ⊢
      have hd0 : d = 0 := by omega
      refine List.filter_eq_self.2 fun y hy => ?_
      obtain ⟨i, hi, rfl⟩ := List.mem_iff_getElem.1 hy
      show (!aboveB l[d] l[i]) = true
      rw [above_idx h hlt i hi, hd0]
      simp
    · rw [if_neg h0]
      exact List.filter_eq_self.2 fun y hy => rfl
theorem chR_snoc (all : List RV) (x : RV) (k : ByteArray) : (chR (all ++ [x]) k).map RV.v = upd (fun k => (chR all k).map RV.v) x.key ((chR all x.key).map RV.v ++ [x.v]) k := by
  unfold upd chR
  rw [List.filter_append, List.map_append]
  by_cases hk : k = x.key
  · rw [if_pos hk, hk, List.filter_cons, if_pos ((ofKey_iff x.key x).2 rfl)]
    rfl
  · rw [if_neg hk, List.filter_cons, if_neg (fun hh => hk ((ofKey_iff k x).1 hh).symm)]
    simp
theorem total_list : ∀ (n : Nat) (all : List RV), all.length = n → Total (fun k => (chR all k).map RV.v) n := by
  intro n
  induction n with
  | zero =>
    intro all h
    rw [List.length_eq_zero_iff.1 h]
    exact Total.nil
  | succ n ih =>
    intro all h
    rcases List.eq_nil_or_concat all with rfl | ⟨l, x, rfl⟩
    · simp at h
    · rw [List.concat_eq_append] at h ⊢
      have := (ih l (by simpa using h)).install x.key x.v
      rw [show (fun k => (chR (l ++ [x]) k).map RV.v) = upd (fun k => (chR l k).map RV.v) x.key ((chR l x.key).map RV.v ++ [x.v]) from funext fun k => chR_snoc l x k]
      exact this
theorem Sim.of {s : Store} {all : List RV} (hk : ∀ k, s.2 k = (chR all k).map RV.v) (hg : Good s) : Sim s all := by
  refine ⟨?_, hk, hg⟩
  obtain ⟨ks, hn, hm, hs⟩ := hg.total
  have h2 := total_list _ all rfl
  rw [← show s.2 = (fun k => (chR all k).map RV.v) from funext hk] at h2
  have := h2.unique hn hm
  omega
theorem Sim.prune {s : Store} {all : List RV} (h : Sim s all) (f : Int) {c : Nat} (hg : Good (c, prnS f s.2)) : Sim (c, prnS f s.2) (keptR all f all) := by
  refine Sim.of (fun k => ?_) hg
  show prn f (s.2 k) = _
  rw [← filter_prn (h.good.inc k) f]
  have e : chR (keptR all f all) k = (chR all k).filter fun x => !(match atV (s.2 k) f with | some y => aboveB y x.v | none => false) := by
    unfold chR keptR
    rw [List.filter_filter, List.filter_filter]
    refine List.filter_congr fun x _ => ?_
    cases hk : ofKey k x with
    | false => simp
    | true =>
      have hx := (ofKey_iff k x).1 hk
      have ha := h.at k f
      rw [← hx] at ha ⊢
      unfold gone
      rw [← ha]
      cases bestF (atP x.key f) aboveB all <;> simp
  rw [e, h.key k]
  rw [List.filter_map]
  rfl

end Go.Proofs.Ytkbnfnfjmofcmaa
