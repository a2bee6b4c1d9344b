/- MachineAborted, told by the machine alone. -/
import Derived.Test.YtfodagidmdbmlaaNE
namespace Go.Proofs.Ytfodagidmdbmlaa
set_option linter.unusedVariables false
set_option linter.unusedSimpArgs false
open Go.RowKit

theorem value_same {M M' : Mach} (h : MInv M) (hs : M'.st = M.st) (hc : M.clock ≤ M'.clock) (k : ByteArray) : valueF M' k = valueF M k := by
  unfold valueF
  rw [hs, atV_late (h.top k) hc]
def wG (s : MStep) : MStep := ⟨3, 3, s.gap, s.key, s.value⟩
def wrF (M : Mach) (xs : List MStep) : Mach := xs.foldl (fun M s => (doF M (wG s)).1) M
theorem wrF_snoc (M : Mach) (xs : List MStep) (s : MStep) : wrF M (xs ++ [s]) = (doF (wrF M xs) (wG s)).1 := by
  unfold wrF
  rw [List.foldl_append]
  rfl
theorem wG_st {M : Mach} (h : MOK M) {j : Nat} {r : Run} (hc : Cur M 3 j r) (s : MStep) : (doF M (wG s)).1.st = M.st ∧ ∃ r', Cur (doF M (wG s)).1 3 j r' ∧ r'.session = r.session := by
  by_cases hr : refuseF M (wG s) = 0
  · rw [doF_3 hr rfl (k := 3) rfl hc.curJ hc.curR]
    exact ⟨rfl, _, hc.put _ _, rfl⟩
  · rw [doF_no hr]
    exact ⟨rfl, r, hc, rfl⟩
theorem wrF_cur {M : Mach} (h : MOK M) {j : Nat} {r : Run} (hc : Cur M 3 j r) (xs : List MStep) : MOK (wrF M xs) ∧ (wrF M xs).st = M.st ∧ (∃ r', Cur (wrF M xs) 3 j r' ∧ r'.session = r.session) := by
  induction xs generalizing M r with
  | nil => exact ⟨h, rfl, r, hc, rfl⟩
  | cons s xs ih =>
    obtain ⟨h1, r', h2, h3⟩ := wG_st h hc s
    obtain ⟨a1, a2, r2, a3, a4⟩ := ih (doF_ok h (wG s)) h2
    exact ⟨a1, a2.trans h1, r2, a3, a4.trans h3⟩
theorem aK_formed (k : Nat) : Formed (aK k) k := ⟨rfl, (show (0 : Int) ≤ 0 ∧ (0 : Int) ≤ 1000 by decide), (show (1 : Int) ≤ 6 ∧ (6 : Int) ≤ 6 by decide), fun h => absurd h (show ¬ ((2 : Int) ≤ 6 ∧ (6 : Int) ≤ 4) by decide), fun h => absurd h (show ¬ (6 : Int) = 3 by decide)⟩
theorem refuse_end {M : Mach} {k j : Nat} {r : Run} {s : MStep} (h : Cur M k j r) (hs : Formed s k) (h1 : s.kind ≠ 1) (h4 : 4 < s.kind) :
    refuseF M s = if 1099511627776 < M.clock + 1 + s.gap then 154 else 0 := by
  obtain ⟨q, hq⟩ := h.ses
  have hg : M.sess.getD s.session.toNat (none, 0) = (some j, q) := by
    rw [hs.ses, Int.toNat_natCast, List.getD_eq_getElem?_getD, hq]
    rfl
  unfold refuseF
  rw [if_neg (by rw [hs.zero h.lt]; simp), hg]
  simp only
  rw [if_neg (fun hh => h1 hh.1), if_neg (fun hh => by cases hh.2), if_neg (fun hh => h1 hh.1), if_neg (fun hh => by omega)]
/-- The abort: late, or it leaves the chains as they are, and the log ends with the transaction. -/
theorem abort_law {M : Mach} (h : MOK M) {j : Nat} {r : Run} (hc : Cur M 3 j r) : ((doF M (aK 3)).2.2 = 154) ∨ ((doF M (aK 3)).2.2 = 0 ∧ (doF M (aK 3)).1.st = M.st ∧ M.clock ≤ (doF M (aK 3)).1.clock ∧ ∃ rs x, runsOf (doF M (aK 3)).1 = rs ++ [x] ∧ x.status = 0 ∧ x.session = r.session) := by
  have hr := refuse_end hc (aK_formed 3) (show (6 : Int) ≠ 1 by decide) (show (4 : Int) < 6 by decide)
  by_cases hl : 1099511627776 < M.clock + 1 + (aK ((3 : Nat) : Int)).gap
  · rw [if_pos hl] at hr
    left
    rw [show aK 3 = aK ((3 : Nat) : Int) from rfl, doF_no (by rw [hr]; decide), hr]
  · rw [if_neg hl] at hr
    right
    rw [show aK 3 = aK ((3 : Nat) : Int) from rfl, doF_6 hr rfl (k := 3) rfl hc.curJ]
    have hgr : M.all.getD j Run.zero = r := by rw [List.getD_eq_getElem?_getD, hc.run]; rfl
    refine ⟨rfl, rfl, (by show M.clock ≤ M.clock + 1 + 0; omega), (M.ends.map fun i => (M.all.set j { M.all.getD j Run.zero with fin := M.clock + 1 + 0, ret := M.clock + 1 + 0, status := 0 }).getD i Run.zero), { r with fin := M.clock + 1 + 0, ret := M.clock + 1 + 0, status := 0 }, ?_, rfl, rfl⟩
    show List.map _ (M.ends ++ [j]) = _
    rw [List.map_append]
    have e : (M.all.set j { M.all.getD j Run.zero with fin := M.clock + 1 + 0, ret := M.clock + 1 + 0, status := 0 }).getD j Run.zero = { r with fin := M.clock + 1 + 0, ret := M.clock + 1 + 0, status := 0 } := by
      rw [List.getD_eq_getElem?_getD, List.getElem?_set, if_pos rfl, if_pos (List.getElem?_eq_some_iff.1 hc.run).1]
      show { M.all.getD j Run.zero with fin := M.clock + 1 + 0, ret := M.clock + 1 + 0, status := 0 } = _
      rw [hgr]
    rw [← e]
    rfl

end Go.Proofs.Ytfodagidmdbmlaa
