/- What the document's At and After see is what the chain shows. -/
import Derived.Test.YtkbnfnfjmofcmaaRv
namespace Go.Proofs.Ytkbnfnfjmofcmaa
set_option linter.unusedVariables false
set_option linter.unusedSimpArgs false
open Go.RowKit

/-- The fold over a chain. -/
def pickV (q : Ver → Bool) (b : Ver → Ver → Bool) (o : Option Ver) (x : Ver) : Option Ver := if q x = true then (match o with | none => some x | some y => if b x y = true then some x else some y) else o
def bestV (q : Ver → Bool) (b : Ver → Ver → Bool) (l : List Ver) : Option Ver := l.foldl (pickV q b) none
theorem bestV_snoc (q : Ver → Bool) (b : Ver → Ver → Bool) (l : List Ver) (x : Ver) : bestV q b (l ++ [x]) = pickV q b (bestV q b l) x := by
  unfold bestV
  rw [List.foldl_append]
  rfl
theorem best_key (k : ByteArray) (q : Ver → Bool) (b : Ver → Ver → Bool) (all : List RV) : (bestF (fun x => ofKey k x && q x.v) b all).map RV.v = bestV q b ((chR all k).map RV.v) := by
  have : ∀ (all : List RV) (o : Option RV), (all.foldl (pickR (fun x => ofKey k x && q x.v) b) o).map RV.v = ((chR all k).map RV.v).foldl (pickV q b) (o.map RV.v) := by
    intro all
    induction all with
    | nil => intro o; rfl
    | cons x all ih =>
      intro o
      rw [List.foldl_cons, ih]
      unfold chR
      rw [List.filter_cons]
      cases hk : ofKey k x with
      | false =>
        rw [if_neg (by simp)]
        congr 1
        unfold pickR
        rw [if_neg (by simp [hk])]
      | true =>
        rw [if_pos rfl, List.map_cons, List.foldl_cons]
        congr 1
        unfold pickR pickV
        simp only [hk, Bool.true_and]
        cases hq : q x.v with
        | false => rfl
        | true =>
          rw [if_pos rfl, if_pos rfl]
          cases o with
          | none => rfl
          | some y =>
            show Option.map RV.v (if b x.v y.v = true then some x else some y) = if b x.v y.v = true then some x.v else some y.v
            split <;> rfl
  exact this all none
theorem inc_ends {l : List Ver} {x : Ver} (h : Inc (l ++ [x])) : Inc l ∧ ∀ y ∈ l, vlt y x := by
  have := List.pairwise_append.1 h
  exact ⟨this.1, fun y hy => this.2.2 y hy x (by simp)⟩
theorem cut_all {l : List Ver} {x : Ver} {t : Int} (h : Inc (l ++ [x])) (hx : x.commit ≤ t) : cut (l ++ [x]) t = l.length + 1 := by
  refine cut_is (by simp) (fun k y hk hy => ?_) (fun y hy => ?_)
  · have := List.mem_of_getElem? hy
    rcases List.mem_append.1 this with h1 | h1
    · have := (inc_ends h).2 y h1
      unfold vlt at this
      omega
    · rw [List.mem_singleton] at h1
      rw [h1]
      exact hx
  · rw [List.getElem?_eq_none (by simp)] at hy
    cases hy
theorem cut_same {l : List Ver} {x : Ver} {t : Int} (h : Inc (l ++ [x])) (hx : ¬ x.commit ≤ t) : cut (l ++ [x]) t = cut l t := by
  have hc := cut_le l t
  have hr := (inc_ends h).1.rising
  refine cut_is (by simp; omega) (fun k y hk hy => ?_) (fun y hy => ?_)
  · rw [List.getElem?_append_left (by omega)] at hy
    exact (cut_iff hr hy).2 hk
  · by_cases hl : cut l t < l.length
    · rw [List.getElem?_append_left hl] at hy
      have := mt (cut_iff hr hy).1 (Nat.lt_irrefl _)
      omega
    · rw [List.getElem?_append_right (by omega)] at hy
      have hm := List.mem_of_getElem? hy
      rw [List.mem_singleton] at hm
      rw [hm]
      omega
theorem bestV_at (t : Int) : ∀ (n : Nat) (l : List Ver), l.length = n → Inc l → bestV (fun x => decide (x.commit ≤ t)) aboveB l = atV l t := by
  intro n
  induction n with
  | zero =>
    intro l hl h
    rw [List.length_eq_zero_iff.1 hl]
    rfl
  | succ n ih =>
    intro l hl h
    rcases List.eq_nil_or_concat l with rfl | ⟨l', x, rfl⟩
    · simp at hl
    · rw [List.concat_eq_append] at h hl ⊢
      have hl' : l'.length = n := by simpa using hl
      have he := inc_ends h
      rw [bestV_snoc, ih l' hl' he.1]
      unfold pickV
      by_cases hx : x.commit ≤ t
      · rw [if_pos (decide_eq_true hx)]
        have hc := cut_all h hx
        have e : atV (l' ++ [x]) t = some x := by
          unfold atV
          rw [hc, if_pos (by omega), Nat.add_sub_cancel, List.getElem?_append_right (Nat.le_refl _), Nat.sub_self]
          rfl
        rw [e]
        cases ha : atV l' t with
        | none => rfl
        | some y =>
          have hy : y ∈ l' := by
            unfold atV at ha
            split at ha
            · exact List.mem_of_getElem? ha
            · cases ha
          exact if_pos ((above_iff x y).2 (he.2 y hy))
      · rw [if_neg (by simpa using hx)]
        have hc := cut_same h hx
        unfold atV
        rw [hc]
        have := cut_le l' t
        split
        · rw [List.getElem?_append_left (by omega)]
        · rfl
theorem bestV_after (t : Int) : ∀ (n : Nat) (l : List Ver), l.length = n → Inc l → bestV (fun x => decide (t < x.commit)) belowB l = afterV l t := by
  intro n
  induction n with
  | zero =>
    intro l hl h
    rw [List.length_eq_zero_iff.1 hl]
    rfl
  | succ n ih =>
    intro l hl h
    rcases List.eq_nil_or_concat l with rfl | ⟨l', x, rfl⟩
    · simp at hl
    · rw [List.concat_eq_append] at h hl ⊢
      have hl' : l'.length = n := by simpa using hl
      have he := inc_ends h
      rw [bestV_snoc, ih l' hl' he.1]
      unfold pickV
      have hcl := cut_le l' t
      by_cases hx : x.commit ≤ t
      · rw [if_neg (by simp; omega)]
        have hc := cut_all h hx
        have e1 : (l' ++ [x])[l'.length + 1]? = none := List.getElem?_eq_none (by simp)
        have e2 : l'[cut l' t]? = none := by
          refine List.getElem?_eq_none ?_
          by_cases hlt : cut l' t < l'.length
          · have h2 := he.2 (l'[cut l' t]) (List.getElem_mem hlt)
            have h3 := mt (cut_iff (t := t) he.1.rising (List.getElem?_eq_getElem hlt)).1 (Nat.lt_irrefl _)
            unfold vlt at h2
            omega
          · omega
        unfold afterV
        rw [hc, e1, e2]
      · rw [if_pos (by simp; omega)]
        have hc := cut_same h hx
        unfold afterV
        rw [hc]
        by_cases hlt : cut l' t < l'.length
        · rw [List.getElem?_append_left hlt, List.getElem?_eq_getElem hlt]
          refine if_neg ?_
          unfold belowB
          intro hh
          have h1 := (above_iff _ _).1 hh
          have h2 := he.2 (l'[cut l' t]) (List.getElem_mem hlt)
          unfold vlt at h1 h2
          omega
        · rw [List.getElem?_append_right (by omega), List.getElem?_eq_none (by omega)]
          rw [show cut l' t - l'.length = 0 by omega]
          rfl
theorem Sim.at {s : Store} {all : List RV} (h : Sim s all) (k : ByteArray) (t : Int) : (bestF (atP k t) aboveB all).map RV.v = atV (s.2 k) t := by
  have e := best_key k (fun x => decide (x.commit ≤ t)) aboveB all
  rw [← h.key] at e
  exact e.trans (bestV_at t _ _ rfl (h.good.inc k))
theorem Sim.after {s : Store} {all : List RV} (h : Sim s all) (k : ByteArray) (t : Int) : (bestF (afterP k t) belowB all).map RV.v = afterV (s.2 k) t := by
  have e := best_key k (fun x => decide (t < x.commit)) belowB all
  rw [← h.key] at e
  exact e.trans (bestV_after t _ _ rfl (h.good.inc k))

end Go.Proofs.Ytkbnfnfjmofcmaa
