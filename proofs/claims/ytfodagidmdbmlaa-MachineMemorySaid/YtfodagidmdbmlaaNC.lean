/- What others leave of the chains; MachineSnapshot, told by the machine alone. -/
import Derived.Test.YtfodagidmdbmlaaNB
namespace Go.Proofs.Ytfodagidmdbmlaa
set_option linter.unusedVariables false
set_option linter.unusedSimpArgs false
open Go.RowKit

theorem cut_app {l l' : List Ver} {t : Int} (h : ∀ x ∈ l', t < x.commit) : cut (l ++ l') t = cut l t := by
  unfold cut
  rw [List.takeWhile_append]
  split
  · rename_i he
    have : l'.takeWhile (fun v => decide (v.commit ≤ t)) = [] := by
      cases l' with
      | nil => rfl
      | cons a l' =>
        have := h a (by simp)
        rw [List.takeWhile_cons, if_neg (by simp; omega)]
    rw [this, List.append_nil, he]
  · rfl
theorem atV_app {l l' : List Ver} {t : Int} (h : ∀ x ∈ l', t < x.commit) : atV (l ++ l') t = atV l t := by
  unfold atV
  rw [cut_app h]
  have := cut_le l t
  split
  · rw [List.getElem?_append_left (by omega)]
  · rfl
theorem cut_full {l : List Ver} {t : Int} (h : ∀ x ∈ l, x.commit ≤ t) : cut l t = l.length :=
  cut_is (Nat.le_refl _) (fun k x _ hx => h x (List.mem_of_getElem? hx)) (fun x hx => by rw [List.getElem?_eq_none (Nat.le_refl _)] at hx; cases hx)
theorem atV_late {l : List Ver} {t t' : Int} (h : ∀ x ∈ l, x.commit ≤ t) (ht : t ≤ t') : atV l t' = atV l t := by
  unfold atV
  rw [cut_full h, cut_full (fun x hx => Int.le_trans (h x hx) ht)]
/-- Chains grow behind the clock. -/
theorem doF_grow {M : Mach} (h : MOK M) (s : MStep) (k : ByteArray) : ∃ l, (doF M s).1.st.2 k = M.st.2 k ++ l ∧ ∀ x ∈ l, M.clock < x.commit := by
  have same : ∀ M' : Mach, M'.st = M.st → ∃ l, M'.st.2 k = M.st.2 k ++ l ∧ ∀ x ∈ l, M.clock < x.commit := fun M' e => ⟨[], by rw [e, List.append_nil], fun x hx => by cases hx⟩
  by_cases hr : refuseF M s = 0
  · obtain ⟨k', ht⟩ := taken hr
    have es : s.session.toNat = k' := by rw [ht.ses]; exact Int.toNat_natCast k'
    by_cases e1 : s.kind = 1
    · rw [doF_1 hr e1 es rfl]; exact same _ rfl
    · obtain ⟨j', q', r', hx, hj, hrs, hcj, hcr, hops⟩ := taken_some h.inv hr e1 ht
      have fin : ∀ b, ∃ l, (finF (tick M s.gap) k' j' b).st.2 k = M.st.2 k ++ l ∧ ∀ x ∈ l, M.clock < x.commit := fun b => by
        have hT := tick_ok h ht.gap.1 ht.clk
        rw [finF_st hT.inv b hj (tick_low h.inv ht.gap.1)]
        split
        · refine ⟨_, rfl, fun x hx => ?_⟩
          rw [List.mem_singleton] at hx
          subst hx
          show M.clock < M.clock + 1 + s.gap
          have := ht.gap
          omega
        · exact ⟨[], by rw [List.append_nil]; rfl, fun x hx => by cases hx⟩
      by_cases e2 : s.kind = 2
      · rw [doF_2 hr e2 es hcj hcr rfl]; exact same _ rfl
      by_cases e3 : s.kind = 3
      · rw [doF_3 hr e3 es hcj hcr]; exact same _ rfl
      by_cases e4 : s.kind = 4
      · rw [doF_4 hr e4 es hcj hcr]; exact same _ rfl
      by_cases e5 : s.kind = 5
      · rw [doF_5 hr e5 es hcj hcr rfl]; exact fin _
      · rw [doF_6 hr (by have := ht.kind; omega) es hcj]; exact fin _
  · rw [doF_no hr]; exact same _ rfl
theorem others_grow {M : Mach} (h : MOK M) (xs : List MStep) (k : ByteArray) : ∃ l, (othersF M xs).st.2 k = M.st.2 k ++ l ∧ ∀ x ∈ l, M.clock < x.commit := by
  induction xs generalizing M with
  | nil => exact ⟨[], by rw [List.append_nil]; rfl, fun x hx => by cases hx⟩
  | cons s xs ih =>
    have e : othersF M (s :: xs) = othersF (if s.session ≠ 3 then (doF M s).1 else M) xs := rfl
    rw [e]
    by_cases hs : s.session ≠ 3
    · rw [if_pos hs]
      obtain ⟨l1, h1, h2⟩ := doF_grow h s k
      obtain ⟨l2, h3, h4⟩ := ih (doF_ok h s)
      have hc := (doF_frame h.inv s).2.2
      refine ⟨l1 ++ l2, by rw [h3, h1, List.append_assoc], fun x hx => ?_⟩
      rcases List.mem_append.1 hx with hx | hx
      · exact h2 x hx
      · have := h4 x hx; omega
    · rw [if_neg hs]
      exact ih h
/-- A transaction that wrote nothing of a key reads the chain at its start. -/
theorem readF_chain {M : Mach} {j : Nat} {r : Run} {k : ByteArray} (hf : M.flaw = 0) (h : (lastV r k).2.2 = false) : readF M j r k = (((atV (M.st.2 k) r.start).getD Ver.zero).value, ((atV (M.st.2 k) r.start).getD Ver.zero).found) := by
  unfold readF
  rw [h, if_neg (by simp), if_neg (fun hh => by rw [hf] at hh; exact absurd hh.1 (by decide))]
  unfold chainF
  rw [hf, if_neg (by decide), if_neg (by decide)]
/-- MachineSnapshot, told by the machine alone. -/
theorem snap_law {M : Mach} (hf : FreeOK M) (hfl : M.flaw = 0) {key : ByteArray} (hk : 1 ≤ key.size ∧ key.size ≤ 8) (xs ys : List MStep) {M3 M4 M5 : Mach} (h3 : M3 = othersF (doF M bStep).1 xs) (h4 : M4 = (doF M3 (rStep key)).1) (h5 : M5 = othersF M4 ys) :
    (doF M3 (rStep key)).2.2 = 154 ∨ (doF M5 (rStep key)).2.2 = 154 ∨ ((doF M3 (rStep key)).2 = (((valueF M key).2, (valueF M key).1, 0), 0) ∧ (doF M5 (rStep key)).2 = (((valueF M key).2, (valueF M key).1, 0), 0)) := by
  obtain ⟨q, hq⟩ := hf.idle
  have hclk := hf.clk
  obtain ⟨-, c2, e2, st2, fl2⟩ := cur_begin hq bStep_formed rfl hf.cnt (by show M.clock + 1 + 0 ≤ 1099511627776; omega)
  have e2 : (doF M bStep).1.clock = M.clock + 1 + 0 := e2
  have ok2 := doF_ok hf.ok bStep
  obtain ⟨ok3, c3, f3, -⟩ := others_cur ok2 c2 xs
  obtain ⟨l3, g3, g3'⟩ := others_grow ok2 xs key
  rw [← h3] at ok3 c3 f3 g3
  rw [st2] at g3
  -- what is seen at the start
  have seen3 : ∀ l, (∀ x ∈ l, M.clock + 1 + 0 < x.commit) → atV (M.st.2 key ++ l) (M.clock + 1 + bStep.gap) = atV (M.st.2 key) M.clock := fun l hl => by
    rw [show M.clock + 1 + bStep.gap = M.clock + 1 + 0 from rfl, atV_app hl]
    exact atV_late (hf.ok.inv.top key) (by omega)
  have fl3 : M3.flaw = 0 := f3.trans (fl2.trans hfl)
  by_cases hc3 : M3.clock + 1 ≤ 1099511627776
  · obtain ⟨a3, c4, s4, e4, f4⟩ := cur_read c3 hk (by show 0 < 16; omega) hc3
    have R3 := readF_chain (M := tick M3 0) (j := M.all.length) (r := ⟨((3 : Nat) : Int), q, M.clock + 1 + bStep.gap, 0, M.clock, 0, 0, [], []⟩) (k := key) fl3 rfl
    have S3 : (tick M3 0).st.2 key = M.st.2 key ++ l3 := g3
    rw [S3] at R3
    simp only at R3
    rw [seen3 l3 (fun x hx => by have := g3' x hx; rw [e2] at this; exact this)] at R3
    have RV3 : readF (tick M3 0) M.all.length ⟨((3 : Nat) : Int), q, M.clock + 1 + bStep.gap, 0, M.clock, 0, 0, [], []⟩ key = valueF M key := R3
    rw [RV3] at a3 c4
    rw [← h4] at c4 s4 e4 f4
    have ok4 : MOK M4 := by rw [h4]; exact doF_ok ok3 _
    obtain ⟨ok5, c5, f5, -⟩ := others_cur ok4 c4 ys
    obtain ⟨l5, g5, g5'⟩ := others_grow ok4 ys key
    rw [← h5] at ok5 c5 f5 g5
    have hle : M.clock + 1 + 0 ≤ M3.clock := by
      have := (others_cur ok2 c2 xs).2.2.2
      rw [← h3, e2] at this
      exact this
    by_cases hc5 : M5.clock + 1 ≤ 1099511627776
    · obtain ⟨a5, -⟩ := cur_read c5 hk (by rw [add_len]; show 0 + 1 < 16; omega) hc5
      have L5 := lastV_add (r := ⟨((3 : Nat) : Int), q, M.clock + 1 + bStep.gap, 0, M.clock, 0, 0, [], []⟩) rfl ⟨1, key, (valueF M key).2, (valueF M key).1⟩ (M3.clock + 1 + 0) key
      rw [if_neg (by rw [wrote_read]; simp)] at L5
      have R5 := readF_chain (M := tick M5 0) (j := M.all.length) (k := key) (show (tick M5 0).flaw = 0 from f5.trans (f4.trans fl3)) (show (lastV _ key).2.2 = false by rw [L5]; rfl)
      have S5 : (tick M5 0).st.2 key = M.st.2 key ++ (l3 ++ l5) := by
        show M5.st.2 key = _
        rw [g5, s4, g3, List.append_assoc]
      rw [S5] at R5
      have e6 : atV (M.st.2 key ++ (l3 ++ l5)) (Run.add ⟨((3 : Nat) : Int), q, M.clock + 1 + bStep.gap, 0, M.clock, 0, 0, [], []⟩ ⟨1, key, (valueF M key).2, (valueF M key).1⟩ (M3.clock + 1 + 0)).start = atV (M.st.2 key) M.clock := by
        show atV (M.st.2 key ++ (l3 ++ l5)) (M.clock + 1 + bStep.gap) = _
        refine seen3 _ fun x hx => ?_
        rcases List.mem_append.1 hx with hx | hx
        · have := g3' x hx; rw [e2] at this; exact this
        · have := g5' x hx; omega
      rw [e6] at R5
      have RV5 : readF (tick M5 0) M.all.length (Run.add ⟨((3 : Nat) : Int), q, M.clock + 1 + bStep.gap, 0, M.clock, 0, 0, [], []⟩ ⟨1, key, (valueF M key).2, (valueF M key).1⟩ (M3.clock + 1 + 0)) key = valueF M key := R5
      rw [RV5] at a5
      exact .inr (.inr ⟨a3, a5⟩)
    · exact .inr (.inl (late_read c5 hk (by rw [add_len]; show 0 + 1 < 16; omega) hc5))
  · exact .inl (late_read c3 hk (by show 0 < 16; omega) hc3)

end Go.Proofs.Ytfodagidmdbmlaa
