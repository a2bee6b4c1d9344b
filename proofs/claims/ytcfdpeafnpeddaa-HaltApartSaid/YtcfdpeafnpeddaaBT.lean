/- A beat of a stop, a stop's child: told with no program in sight. -/
import Derived.Test.YtcfdpeafnpeddaaN
namespace Go.Proofs.Ytcfdpeafnpeddaa
set_option linter.unusedVariables false
set_option linter.unusedSimpArgs false
open Go.Conc Go.RowKit

/-- Up from stop p: the topmost stop with no beat left, else s. -/
def spentG (st : List St) : Nat → Int → Int → Int
  | 0, _, s => s
  | n + 1, p, s => if p < 0 then s else spentG st n (ns st p.toNat).par (if (ns st p.toNat).left = 0 then p else s)
def decG : Nat → Int → List St → List St
  | 0, _, st => st
  | n + 1, p, st => if p < 0 then st else decG n (ns st p.toNat).par (st.set p.toNat { ns st p.toNat with left := (ns st p.toNat).left - 1 })
theorem spentG_neg (st : List St) (m : Nat) (p s : Int) (h : p < 0) : spentG st m p s = s := by
  cases m with
  | zero => rfl
  | succ m => rw [spentG, if_pos h]
theorem decG_neg (st : List St) (m : Nat) (p : Int) (h : p < 0) : decG m p st = st := by
  cases m with
  | zero => rfl
  | succ m => rw [decG, if_pos h]
theorem spentG_ge (st : List St) : ∀ (m : Nat) (p s : Int), 0 ≤ s → 0 ≤ spentG st m p s := by
  intro m
  induction m with
  | zero => intro p s h; exact h
  | succ m ih =>
    intro p s h
    rw [spentG]
    split
    · exact h
    · refine ih _ _ ?_
      split <;> omega
theorem spentG_is (st : List St) : ∀ (m : Nat) (p s : Int), spentG st m p s = s ∨ ∃ r q : Nat, spentG st m p s = r ∧ p = q ∧ Under st r q ∧ (ns st r).left = 0 := by
  intro m
  induction m with
  | zero => intro p s; exact .inl rfl
  | succ m ih =>
    intro p s
    rw [spentG]
    split
    · exact .inl rfl
    · rename_i hp
      obtain ⟨q, rfl⟩ : ∃ q : Nat, p = q := ⟨p.toNat, by omega⟩
      rw [show ((q : Int)).toNat = q from by omega]
      by_cases hl : (ns st q).left = 0
      · rw [if_pos hl]
        rcases ih (ns st q).par q with h | ⟨r, q', h1, h2, h3, h4⟩
        · exact .inr ⟨q, q, h, rfl, .self, hl⟩
        · exact .inr ⟨r, q, h1, rfl, .step h2 h3, h4⟩
      · rw [if_neg hl]
        rcases ih (ns st q).par s with h | ⟨r, q', h1, h2, h3, h4⟩
        · exact .inl h
        · exact .inr ⟨r, q, h1, rfl, .step h2 h3, h4⟩
theorem spentG_congr {st st' : List St} (hw : Wf st) : ∀ (m : Nat) (p s : Int), p < st.length → (∀ k : Nat, (k : Int) ≤ p → ns st' k = ns st k) → spentG st' m p s = spentG st m p s := by
  intro m
  induction m with
  | zero => intro p s _ _; rfl
  | succ m ih =>
    intro p s hl h
    rw [spentG, spentG]
    split
    · rfl
    · rename_i hp
      have e := h p.toNat (by omega)
      rw [e]
      have := hw.par p.toNat (by omega)
      exact ih _ _ (by omega) fun k hk => h k (by omega)
def Lefts (st : List St) : Prop := ∀ k, k < st.length → 0 ≤ (ns st k).left ∧ (ns st k).left ≤ 1099511627776
structure SInv (st : List St) : Prop where
  wf : Wf st
  con : Con st
  lefts : Lefts st
  pos : 1 ≤ st.length
  le : st.length ≤ 256
theorem set_left_par (st : List St) (p : Nat) (v : Int) (hp : p < st.length) (k : Nat) : (ns (st.set p { ns st p with left := v }) k).par = (ns st k).par ∧ (ns (st.set p { ns st p with left := v }) k).cause = (ns st k).cause := by
  rw [ns_set _ _ _ _ hp]
  split
  · rename_i e; rw [e]; exact ⟨rfl, rfl⟩
  · exact ⟨rfl, rfl⟩
theorem wf_congr {st st' : List St} (hl : st'.length = st.length) (h : ∀ k, (ns st' k).par = (ns st k).par) (hw : Wf st) : Wf st' :=
  ⟨fun k hk => by rw [h]; exact hw.par k (by omega), fun k hk h0 => by rw [h]; exact hw.zero k (by omega) h0, by rw [h]; exact hw.root⟩
theorem con_congr {st st' : List St} (h : ∀ k, (ns st' k).par = (ns st k).par) (h' : ∀ k, (ns st' k).cause = (ns st k).cause) (hc : Con st) : Con st' := by
  intro k p hp hpc
  rw [h] at hp
  rw [h'] at hpc ⊢
  exact hc k p hp hpc
theorem decG_keeps : ∀ (m : Nat) (p : Int) (st : List St), Wf st → p < st.length → (decG m p st).length = st.length ∧ (∀ k, (ns (decG m p st) k).par = (ns st k).par) ∧ (∀ k, (ns (decG m p st) k).cause = (ns st k).cause) := by
  intro m
  induction m with
  | zero => intro p st _ _; exact ⟨rfl, fun _ => rfl, fun _ => rfl⟩
  | succ m ih =>
    intro p st hw hl
    rw [decG]
    split
    · exact ⟨rfl, fun _ => rfl, fun _ => rfl⟩
    · rename_i hp
      have hpl : p.toNat < st.length := by omega
      have h1 := set_left_par st p.toNat ((ns st p.toNat).left - 1) hpl
      have hpar := hw.par p.toNat hpl
      obtain ⟨a, b, c⟩ := ih (ns st p.toNat).par _ (wf_congr (by simp) (fun k => (h1 k).1) hw) (by rw [List.length_set]; omega)
      refine ⟨by rw [a, List.length_set], fun k => by rw [b, (h1 k).1], fun k => by rw [c, (h1 k).2]⟩
theorem decG_lefts : ∀ (m : Nat) (p : Int) (st : List St), Wf st → p < st.length → p < m → Lefts st → spentG st m p (-1) < 0 → Lefts (decG m p st) := by
  intro m
  induction m with
  | zero => intro p st _ _ _ hL _; exact hL
  | succ m ih =>
    intro p st hw hl hm hL hs
    rw [decG]
    split
    · exact hL
    · rename_i hp
      have hpl : p.toNat < st.length := by omega
      rw [spentG, if_neg hp] at hs
      have hne : (ns st p.toNat).left ≠ 0 := by
        intro e
        rw [if_pos e] at hs
        have := spentG_ge st m (ns st p.toNat).par p (by omega)
        omega
      rw [if_neg hne] at hs
      have h1 := set_left_par st p.toNat ((ns st p.toNat).left - 1) hpl
      have hpar := hw.par p.toNat hpl
      have hLp := hL p.toNat hpl
      refine ih (ns st p.toNat).par _ (wf_congr (by simp) (fun k => (h1 k).1) hw) (by rw [List.length_set]; omega) (by omega) ?_ ?_
      · intro k hk
        rw [List.length_set] at hk
        rw [ns_set _ _ _ _ hpl]
        split
        · simp only; omega
        · exact hL k hk
      · rw [spentG_congr hw m _ _ (by omega)]
        · exact hs
        · intro k hk
          rw [ns_set _ _ _ _ hpl, if_neg (by omega)]
noncomputable def beatF (st : List St) (i : Nat) : Bool × List St :=
  if (ns st i).cause = 0 then if 0 ≤ spentG st (i + 1) i (-1) then (false, endS st (spentG st (i + 1) i (-1)).toNat 2) else (true, decG (i + 1) i st) else (false, st)
theorem spent_live {st : List St} (hw : Wf st) (hc : Con st) {i : Nat} (hi : i < st.length) (h0 : (ns st i).cause = 0) (hs : 0 ≤ spentG st (i + 1) i (-1)) :
    ∃ r : Nat, spentG st (i + 1) i (-1) = r ∧ r < st.length ∧ (ns st r).cause = 0 ∧ Under st r i := by
  rcases spentG_is st (i + 1) i (-1) with h | ⟨r, q, h1, h2, h3, h4⟩
  · omega
  · have : q = i := by omega
    subst this
    refine ⟨r, h1, ?_, ?_, h3⟩
    · have := h3.le hw; omega
    · by_cases e : (ns st r).cause = 0
      · exact e
      · exact absurd h0 ((hc.cons r).all e h3)
theorem endS_lefts {st : List St} (h : Lefts st) (i : Nat) (c : Int) : Lefts (endS st i c) := by
  intro k hk
  rw [endS_length] at hk
  rw [endS_left]
  exact h k hk
theorem SInv.end {st : List St} (h : SInv st) (i : Nat) (c : Int) (hc : c ≠ 0) : SInv (endS st i c) :=
  ⟨endS_wf h.wf i c, endS_con h.wf h.con i c hc, endS_lefts h.lefts i c, by rw [endS_length]; exact h.pos, by rw [endS_length]; exact h.le⟩
theorem SInv.cancel {st : List St} (h : SInv st) (i : Nat) : SInv (cancelF st i).2 := by
  unfold cancelF
  split
  · exact h.end i 1 (by decide)
  · exact h
theorem SInv.beat {st : List St} (h : SInv st) (i : Nat) (hi : i < st.length) : SInv (beatF st i).2 := by
  unfold beatF
  split
  · split
    · exact h.end _ 2 (by decide)
    · obtain ⟨a, b, c⟩ := decG_keeps (i + 1) i st h.wf (by omega)
      exact ⟨wf_congr a b h.wf, con_congr b c h.con, decG_lefts _ _ _ h.wf (by omega) (by omega) h.lefts (by omega), by rw [a]; exact h.pos, by rw [a]; exact h.le⟩
  · exact h
/-! ### children -/
def child0 (st : List St) (i : Nat) (n : Int) (c : Int) : List St := st ++ [⟨i, n, c⟩]
theorem child0_ns (st : List St) (i : Nat) (n c : Int) (k : Nat) : ns (child0 st i n c) k = if k = st.length then ⟨i, n, c⟩ else ns st k := by
  unfold ns child0
  rw [List.getD_eq_getElem?_getD, List.getD_eq_getElem?_getD]
  by_cases e : k = st.length
  · subst e
    rw [if_pos rfl, List.getElem?_append_right (by omega)]
    simp
  · rw [if_neg e]
    by_cases hk : k < st.length
    · rw [List.getElem?_append_left hk]
    · rw [List.getElem?_eq_none (by simp; omega), List.getElem?_eq_none (by omega)]
theorem child0_length (st : List St) (i : Nat) (n c : Int) : (child0 st i n c).length = st.length + 1 := by simp [child0]
theorem child0_wf {st : List St} (hw : Wf st) (i : Nat) (hi : i < st.length) (n c : Int) : Wf (child0 st i n c) := by
  refine ⟨fun k hk => ?_, fun k hk h0 => ?_, ?_⟩
  · rw [child0_length] at hk
    rw [child0_ns]
    split
    · simp only; omega
    · exact hw.par k (by omega)
  · rw [child0_length] at hk
    rw [child0_ns]
    split
    · simp only; omega
    · exact hw.zero k (by omega) h0
  · rw [child0_ns, if_neg (by omega)]
    exact hw.root
def childC (st : List St) (i : Nat) : Int := if (ns st i).cause = 0 then 0 else 3
def childF (st : List St) (i : Nat) (n : Int) : Int × List St :=
  if 0 ≤ n ∧ n ≤ 1099511627776 then if 256 ≤ st.length then (11, st) else (0, child0 st i n (childC st i)) else (10, st)
theorem SInv.child {st : List St} (h : SInv st) (i : Nat) (hi : i < st.length) (n : Int) : SInv (childF st i n).2 := by
  unfold childF
  split
  · rename_i hn
    split
    · exact h
    · refine ⟨child0_wf h.wf i hi _ _, ?_, ?_, by simp only [child0_length]; omega, by simp only [child0_length]; omega⟩
      · intro k p hp hpc
        simp only at hp hpc ⊢
        rw [child0_ns] at hp hpc ⊢
        by_cases hk : k = st.length
        · rw [if_pos hk] at hp ⊢
          simp only at hp ⊢
          have : p = i := by omega
          subst this
          rw [if_neg (by omega)] at hpc
          unfold childC
          rw [if_neg hpc]
          decide
        · rw [if_neg hk] at hp ⊢
          by_cases hkl : k < st.length
          · have := h.wf.par k hkl
            rw [if_neg (by omega)] at hpc
            exact h.con k p hp hpc
          · rw [ns_out (by omega)] at hp
            simp [St.none] at hp
      · intro k hk
        simp only [child0_length] at hk
        simp only [child0_ns]
        split
        · simp only; omega
        · exact h.lefts k (by omega)
  · exact h
/-- A child of a stopped one, ended. -/
theorem child_end {st : List St} (hw : Wf st) (i : Nat) (hi : i < st.length) (n : Int) : endS (child0 st i n 0) st.length 3 = child0 st i n 3 ∧ Cons (child0 st i n 0) st.length := by
  have hw' := child0_wf hw i hi n 0
  constructor
  · refine ns_ext (by rw [endS_length, child0_length, child0_length]) fun k hk => ?_
    rw [endS_length] at hk
    rw [endS_ns _ _ _ _ hk, child0_ns]
    unfold endAt
    rw [child0_ns]
    rw [child0_length] at hk
    by_cases e : k = st.length
    · subst e
      rw [if_pos rfl, if_pos rfl, if_pos ⟨rfl, .self⟩, if_pos rfl]
    · have nu : ¬ ((if k = st.length then (⟨i, n, 0⟩ : St) else ns st k).cause = 0 ∧ Under (child0 st i n 0) st.length k) := by
        rintro ⟨-, u⟩
        have := u.le hw'
        omega
      rw [if_neg nu, if_neg e, if_neg e]
  · intro k p u hp hpc
    have h1 := u.lt hw' (by rw [child0_length]; omega)
    have h2 := u.le hw'
    rw [child0_length] at h1
    by_cases hk : k < (child0 st i n 0).length
    · have := hw'.par k hk
      rw [child0_length] at hk
      omega
    · rw [ns_out (by omega)] at hp
      simp [St.none] at hp
end Go.Proofs.Ytcfdpeafnpeddaa
