/- A transaction of session 3: MachineOwn, told by the machine alone. -/
import Derived.Test.YtfodagidmdbmlaaMZ
namespace Go.Proofs.Ytfodagidmdbmlaa
set_option linter.unusedVariables false
set_option linter.unusedSimpArgs false
open Go.RowKit

theorem nAct_le (l : List (Option Nat × Int)) : nAct l ≤ l.length := List.length_filter_le _ _
/-- What free tells. -/
structure FreeOK (M : Mach) : Prop where
  ok : MOK M
  len : M.sess.length = 4
  idle : ∃ q, M.sess[3]? = some (none, q)
  cnt : M.all.length < 4096
  clk : M.clock < 549755813888
theorem freeM_frame {M : Mach} (h : MOK M) : MOK (freeM M) ∧ (freeM M).flaw = M.flaw ∧ (freeM M).sess.length = M.sess.length := by
  unfold freeM
  split
  · have := doF_frame h.inv freeStep
    exact ⟨doF_ok h _, this.1, this.2.1⟩
  · exact ⟨h, rfl, rfl⟩
theorem idle_of {M : Mach} (hl : M.sess.length = 4) {k : Nat} (hk : k < 4) (h : activeF M k = false) : ∃ q, M.sess[k]? = some (none, q) := by
  obtain ⟨⟨o, q⟩, hx⟩ : ∃ x, M.sess[k]? = some x := ⟨_, List.getElem?_eq_getElem (by omega)⟩
  unfold activeF at h
  rw [decide_eq_true (by omega), decide_eq_true (by omega), Int.toNat_natCast, List.getD_eq_getElem?_getD, hx] at h
  cases o with
  | none => exact ⟨q, hx⟩
  | some j => cases h
theorem free_ok {M : Mach} (h : MOK M) (hl : M.sess.length = 4) (hf : freeB M = true) : FreeOK (freeM M) := by
  obtain ⟨h1, -, h3⟩ := freeM_frame h
  unfold freeB at hf
  simp only [Bool.and_eq_true, Bool.not_eq_true', decide_eq_true_eq] at hf
  obtain ⟨f1, f2, f3⟩ := hf
  have hb := h1.bal
  have hn := nAct_le (freeM M).sess
  exact ⟨h1, h3.trans hl, idle_of (h3.trans hl) (k := 3) (by omega) f1, by omega, f2⟩
def bStep : MStep := ⟨1, 3, 0, ⟨#[]⟩, ⟨#[]⟩⟩
def wStep (k v : ByteArray) : MStep := ⟨3, 3, 0, k, v⟩
def rStep (k : ByteArray) : MStep := ⟨2, 3, 0, k, ⟨#[]⟩⟩
def dStep (k : ByteArray) : MStep := ⟨4, 3, 0, k, ⟨#[]⟩⟩
theorem bStep_formed : Formed bStep 3 := ⟨rfl, by decide, by decide, fun h => absurd h (by decide), fun h => absurd h (by decide)⟩
theorem wStep_formed {k v : ByteArray} (hk : 1 ≤ k.size ∧ k.size ≤ 8) (hv : v.size ≤ 16) : Formed (wStep k v) 3 := ⟨rfl, (show (0 : Int) ≤ 0 ∧ (0 : Int) ≤ 1000 by decide), (show (1 : Int) ≤ 3 ∧ (3 : Int) ≤ 6 by decide), fun _ => hk, fun _ => hv⟩
theorem rStep_formed {k : ByteArray} (hk : 1 ≤ k.size ∧ k.size ≤ 8) : Formed (rStep k) 3 := ⟨rfl, (show (0 : Int) ≤ 0 ∧ (0 : Int) ≤ 1000 by decide), (show (1 : Int) ≤ 2 ∧ (2 : Int) ≤ 6 by decide), fun _ => hk, fun h => absurd h (show ¬ (2 : Int) = 3 by decide)⟩
theorem dStep_formed {k : ByteArray} (hk : 1 ≤ k.size ∧ k.size ≤ 8) : Formed (dStep k) 3 := ⟨rfl, (show (0 : Int) ≤ 0 ∧ (0 : Int) ≤ 1000 by decide), (show (1 : Int) ≤ 4 ∧ (4 : Int) ≤ 6 by decide), fun _ => hk, fun h => absurd h (show ¬ (4 : Int) = 3 by decide)⟩
/-- The steps of others. -/
def othersF (M : Mach) (xs : List MStep) : Mach := xs.foldl (fun M s => if s.session ≠ 3 then (doF M s).1 else M) M
theorem othersF_snoc (M : Mach) (xs : List MStep) (s : MStep) : othersF M (xs ++ [s]) = if s.session ≠ 3 then (doF (othersF M xs) s).1 else othersF M xs := by
  unfold othersF
  rw [List.foldl_append]
  rfl
theorem others_cur {M : Mach} (h : MOK M) {j : Nat} {r : Run} (hc : Cur M 3 j r) (xs : List MStep) : MOK (othersF M xs) ∧ Cur (othersF M xs) 3 j r ∧ (othersF M xs).flaw = M.flaw ∧ M.clock ≤ (othersF M xs).clock := by
  induction xs generalizing M with
  | nil => exact ⟨h, hc, rfl, Int.le_refl _⟩
  | cons s xs ih =>
    have e : othersF M (s :: xs) = othersF (if s.session ≠ 3 then (doF M s).1 else M) xs := rfl
    rw [e]
    by_cases hs : s.session ≠ 3
    · rw [if_pos hs]
      obtain ⟨a1, a2, a3, a4⟩ := ih (doF_ok h s) (cur_other h.inv hc hs)
      have hf := doF_frame h.inv s
      exact ⟨a1, a2, a3.trans hf.1, Int.le_trans hf.2.2 a4⟩
    · rw [if_neg hs]
      exact ih h hc
/-- A step of the transaction itself. -/
theorem cur_write {M : Mach} {j : Nat} {r : Run} {k v : ByteArray} (h : Cur M 3 j r) (hk : 1 ≤ k.size ∧ k.size ≤ 8) (hv : v.size ≤ 16) (hl : r.ops.length < 16) (hc : M.clock + 1 ≤ 1099511627776) :
    (doF M (wStep k v)).2.2 = 0 ∧ Cur (doF M (wStep k v)).1 3 j (r.add ⟨2, k, true, v⟩ (M.clock + 1 + 0)) := by
  have hr : refuseF M (wStep k v) = 0 := by rw [refuse_cur h (wStep_formed hk hv) (show (3 : Int) ≠ 1 by decide) hl, if_neg (by show ¬ 1099511627776 < M.clock + 1 + 0; omega)]
  rw [doF_3 hr rfl (k := 3) rfl h.curJ h.curR]
  exact ⟨rfl, h.put _ _⟩
theorem cur_delete {M : Mach} {j : Nat} {r : Run} {k : ByteArray} (h : Cur M 3 j r) (hk : 1 ≤ k.size ∧ k.size ≤ 8) (hl : r.ops.length < 16) (hc : M.clock + 1 ≤ 1099511627776) :
    (doF M (dStep k)).2.2 = 0 ∧ Cur (doF M (dStep k)).1 3 j (r.add ⟨3, k, false, ⟨#[]⟩⟩ (M.clock + 1 + 0)) := by
  have hr : refuseF M (dStep k) = 0 := by rw [refuse_cur h (dStep_formed hk) (show (4 : Int) ≠ 1 by decide) hl, if_neg (by show ¬ 1099511627776 < M.clock + 1 + 0; omega)]
  rw [doF_4 hr rfl (k := 3) rfl h.curJ h.curR]
  exact ⟨rfl, h.put _ _⟩
theorem cur_read {M : Mach} {j : Nat} {r : Run} {k : ByteArray} (h : Cur M 3 j r) (hk : 1 ≤ k.size ∧ k.size ≤ 8) (hl : r.ops.length < 16) (hc : M.clock + 1 ≤ 1099511627776) :
    (doF M (rStep k)).2 = (((readF (tick M 0) j r k).2, (readF (tick M 0) j r k).1, 0), 0) ∧ Cur (doF M (rStep k)).1 3 j (r.add ⟨1, k, (readF (tick M 0) j r k).2, (readF (tick M 0) j r k).1⟩ (M.clock + 1 + 0)) ∧ (doF M (rStep k)).1.st = M.st ∧ (doF M (rStep k)).1.clock = M.clock + 1 + 0 ∧ (doF M (rStep k)).1.flaw = M.flaw := by
  have hr : refuseF M (rStep k) = 0 := by rw [refuse_cur h (rStep_formed hk) (show (2 : Int) ≠ 1 by decide) hl, if_neg (by show ¬ 1099511627776 < M.clock + 1 + 0; omega)]
  rw [doF_2 hr rfl (k := 3) rfl h.curJ h.curR rfl]
  exact ⟨rfl, h.put _ _, rfl, rfl, rfl⟩
theorem late_read {M : Mach} {j : Nat} {r : Run} {k : ByteArray} (h : Cur M 3 j r) (hk : 1 ≤ k.size ∧ k.size ≤ 8) (hl : r.ops.length < 16) (hc : ¬ M.clock + 1 ≤ 1099511627776) : (doF M (rStep k)).2.2 = 154 := by
  have hr : refuseF M (rStep k) = 154 := by rw [refuse_cur h (rStep_formed hk) (show (2 : Int) ≠ 1 by decide) hl, if_pos (by show 1099511627776 < M.clock + 1 + 0; omega)]
  rw [doF_no (by rw [hr]; decide), hr]
theorem late_delete {M : Mach} {j : Nat} {r : Run} {k : ByteArray} (h : Cur M 3 j r) (hk : 1 ≤ k.size ∧ k.size ≤ 8) (hl : r.ops.length < 16) (hc : ¬ M.clock + 1 ≤ 1099511627776) : (doF M (dStep k)).1 = M := by
  have hr : refuseF M (dStep k) = 154 := by rw [refuse_cur h (dStep_formed hk) (show (4 : Int) ≠ 1 by decide) hl, if_pos (by show 1099511627776 < M.clock + 1 + 0; omega)]
  rw [doF_no (by rw [hr]; decide)]
theorem readF_own {M : Mach} {j : Nat} {r : Run} {k : ByteArray} {o : MOp} {t : Int} (h : lastV r k = (o, t, true)) : readF M j r k = (o.value, o.found) := by
  unfold readF
  rw [h]
  rfl
theorem wrote_own (k : ByteArray) {c : Int} (hc : c ≠ 1) (f : Bool) (v : ByteArray) : wrote k ⟨c, k, f, v⟩ = true := by
  unfold wrote
  simp [hc]
theorem wrote_read (k k' : ByteArray) (f : Bool) (v : ByteArray) : wrote k ⟨1, k', f, v⟩ = false := by
  unfold wrote
  simp
theorem add_len (r : Run) (o : MOp) (t : Int) : (r.add o t).ops.length = r.ops.length + 1 := by show (r.ops ++ [o]).length = _; rw [List.length_append]; rfl
theorem add_times {r : Run} (h : r.times.length = r.ops.length) (o : MOp) (t : Int) : (r.add o t).times.length = (r.add o t).ops.length := by
  show (r.times ++ [t]).length = (r.ops ++ [o]).length
  rw [List.length_append, List.length_append, h]
  rfl
/-- MachineOwn, told by the machine alone: what is written is read, whatever others do, and what is deleted is not. -/
theorem own_law {M : Mach} (hf : FreeOK M) {key value : ByteArray} (hk : 1 ≤ key.size ∧ key.size ≤ 8) (hv : value.size ≤ 16) (xs : List MStep) {M3 M4 M5 M6 : Mach} (h3 : M3 = (doF (doF M bStep).1 (wStep key value)).1) (h4 : M4 = othersF M3 xs) (h5 : M5 = (doF M4 (rStep key)).1) (h6 : M6 = (doF M5 (dStep key)).1) :
    (doF (doF M bStep).1 (wStep key value)).2.2 = 0 ∧ ((doF M4 (rStep key)).2.2 = 154 ∨ (doF M6 (rStep key)).2.2 = 154 ∨ ((doF M4 (rStep key)).2 = ((true, value, 0), 0) ∧ (doF M6 (rStep key)).2 = ((false, ⟨#[]⟩, 0), 0))) := by
  obtain ⟨q, hq⟩ := hf.idle
  have hclk := hf.clk
  obtain ⟨-, c2, e2, -, -⟩ := cur_begin hq bStep_formed rfl hf.cnt (by show M.clock + 1 + 0 ≤ 1099511627776; omega)
  have e2 : (doF M bStep).1.clock = M.clock + 1 + 0 := e2
  obtain ⟨f3, c3⟩ := cur_write c2 hk hv (by show 0 < 16; omega) (by rw [e2]; omega)
  rw [← h3] at c3
  refine ⟨f3, ?_⟩
  have ok3 : MOK M3 := by rw [h3]; exact doF_ok (doF_ok hf.ok _) _
  obtain ⟨ok4, c4, -, -⟩ := others_cur ok3 c3 xs
  rw [← h4] at ok4 c4
  have L4 := lastV_add (r := ⟨((3 : Nat) : Int), q, M.clock + 1 + bStep.gap, 0, M.clock, 0, 0, [], []⟩) rfl ⟨2, key, true, value⟩ ((doF M bStep).1.clock + 1 + 0) key
  rw [if_pos (wrote_own key (by decide) _ _)] at L4
  by_cases hc4 : M4.clock + 1 ≤ 1099511627776
  · obtain ⟨a4, c5, -, e5, -⟩ := cur_read c4 hk (by rw [add_len]; show 0 + 1 < 16; omega) hc4
    rw [← h5] at c5 e5
    rw [readF_own L4] at a4 c5
    have L5 := lastV_add (add_times (r := ⟨((3 : Nat) : Int), q, M.clock + 1 + bStep.gap, 0, M.clock, 0, 0, [], []⟩) rfl ⟨2, key, true, value⟩ ((doF M bStep).1.clock + 1 + 0)) ⟨1, key, true, value⟩ (M4.clock + 1 + 0) key
    by_cases hc5 : M5.clock + 1 ≤ 1099511627776
    · obtain ⟨-, c6⟩ := cur_delete c5 hk (by rw [add_len, add_len]; show 0 + 1 + 1 < 16; omega) hc5
      rw [← h6] at c6
      by_cases hc6 : M6.clock + 1 ≤ 1099511627776
      · obtain ⟨a6, -⟩ := cur_read c6 hk (by rw [add_len, add_len, add_len]; show 0 + 1 + 1 + 1 < 16; omega) hc6
        have L6 := lastV_add (add_times (add_times (r := ⟨((3 : Nat) : Int), q, M.clock + 1 + bStep.gap, 0, M.clock, 0, 0, [], []⟩) rfl ⟨2, key, true, value⟩ ((doF M bStep).1.clock + 1 + 0)) ⟨1, key, true, value⟩ (M4.clock + 1 + 0)) ⟨3, key, false, ⟨#[]⟩⟩ (M5.clock + 1 + 0) key
        rw [if_pos (wrote_own key (by decide) _ _)] at L6
        rw [readF_own L6] at a6
        exact .inr (.inr ⟨a4, a6⟩)
      · exact .inr (.inl (late_read c6 hk (by rw [add_len, add_len, add_len]; show 0 + 1 + 1 + 1 < 16; omega) hc6))
    · have e6 := late_delete c5 hk (by rw [add_len, add_len]; show 0 + 1 + 1 < 16; omega) hc5
      rw [← h6] at e6
      rw [← e6] at c5 hc5
      exact .inr (.inl (late_read c5 hk (by rw [add_len, add_len]; show 0 + 1 + 1 < 16; omega) hc5))
  · exact .inl (late_read c4 hk (by rw [add_len]; show 0 + 1 < 16; omega) hc4)

end Go.Proofs.Ytfodagidmdbmlaa
