/- What a session's transaction goes through. -/
import Derived.Test.YtfodagidmdbmlaaMY
namespace Go.Proofs.Ytfodagidmdbmlaa
set_option linter.unusedVariables false
set_option linter.unusedSimpArgs false
open Go.RowKit

/-- Session k's transaction under way is j, with what it did. -/
structure Cur (M : Mach) (k j : Nat) (r : Run) : Prop where
  ses : ∃ q, M.sess[k]? = some (some j, q)
  run : M.all[j]? = some r
theorem Cur.curJ {M : Mach} {k j : Nat} {r : Run} (h : Cur M k j r) : Ytfodagidmdbmlaa.curJ M k = j := by
  obtain ⟨q, hq⟩ := h.ses
  unfold Ytfodagidmdbmlaa.curJ
  rw [List.getD_eq_getElem?_getD, hq]
  rfl
theorem Cur.curR {M : Mach} {k j : Nat} {r : Run} (h : Cur M k j r) : Ytfodagidmdbmlaa.curR M k = r := by
  unfold Ytfodagidmdbmlaa.curR
  rw [h.curJ, List.getD_eq_getElem?_getD, h.run]
  rfl
theorem Cur.lt {M : Mach} {k j : Nat} {r : Run} (h : Cur M k j r) : k < M.sess.length := by
  obtain ⟨q, hq⟩ := h.ses
  exact (List.getElem?_eq_some_iff.1 hq).1
/-- A step is right in form. -/
structure Formed (s : MStep) (k : Nat) : Prop where
  ses : s.session = (k : Int)
  gap : 0 ≤ s.gap ∧ s.gap ≤ 1000
  kind : 1 ≤ s.kind ∧ s.kind ≤ 6
  key : 2 ≤ s.kind ∧ s.kind ≤ 4 → 1 ≤ s.key.size ∧ s.key.size ≤ 8
  val : s.kind = 3 → s.value.size ≤ 16
theorem Formed.zero {n : Nat} {s : MStep} {k : Nat} (h : Formed s k) (hk : k < n) : formF n s = 0 := by
  obtain ⟨h1, h2, h3, h4, h5⟩ := h
  unfold formF
  rw [if_neg (by omega), if_neg (by omega), if_neg (by omega), if_neg (fun hh => by have := h4 hh.1; omega), if_neg (fun hh => by have := h5 hh.1; omega)]
theorem refuse_cur {M : Mach} {k j : Nat} {r : Run} {s : MStep} (h : Cur M k j r) (hs : Formed s k) (h1 : s.kind ≠ 1) (hl : r.ops.length < 16) :
    refuseF M s = if 1099511627776 < M.clock + 1 + s.gap then 154 else 0 := by
  obtain ⟨q, hq⟩ := h.ses
  have hg : M.sess.getD s.session.toNat (none, 0) = (some j, q) := by
    rw [hs.ses, Int.toNat_natCast, List.getD_eq_getElem?_getD, hq]
    rfl
  have hgr : M.all.getD j Run.zero = r := by rw [List.getD_eq_getElem?_getD, h.run]; rfl
  unfold refuseF
  rw [if_neg (by rw [hs.zero h.lt]; simp), hg]
  simp only
  rw [if_neg (fun hh => h1 hh.1), if_neg (fun hh => by cases hh.2), if_neg (fun hh => h1 hh.1), if_neg (fun hh => by
    have h2 := hh.2
    rw [Option.getD_some, hgr] at h2
    omega)]
theorem refuse_idle {M : Mach} {k : Nat} {q : Int} {s : MStep} (hq : M.sess[k]? = some (none, q)) (hs : Formed s k) (h1 : s.kind = 1) (hl : M.all.length < 4096) :
    refuseF M s = if 1099511627776 < M.clock + 1 + s.gap then 154 else 0 := by
  have hg : M.sess.getD s.session.toNat (none, 0) = (none, q) := by
    rw [hs.ses, Int.toNat_natCast, List.getD_eq_getElem?_getD, hq]
    rfl
  unfold refuseF
  rw [if_neg (by rw [hs.zero (List.getElem?_eq_some_iff.1 hq).1]; simp), hg]
  simp only
  rw [if_neg (fun hh => hh.2 rfl), if_neg (fun hh => hh.1 h1), if_neg (by omega), if_neg (by omega)]
theorem doF_no {M : Mach} {s : MStep} (h : refuseF M s ≠ 0) : doF M s = (M, zAns, refuseF M s) := by
  unfold doF
  rw [if_pos h]
theorem Cur.put {M : Mach} {k j : Nat} {r : Run} (h : Cur M k j r) (g : Int) (r' : Run) : Cur (putR (tick M g) j r') k j r' := by
  obtain ⟨q, hq⟩ := h.ses
  refine ⟨⟨q, hq⟩, ?_⟩
  show (M.all.set j r')[j]? = _
  rw [List.getElem?_set, if_pos rfl, if_pos (List.getElem?_eq_some_iff.1 h.run).1]
/-- A begin. -/
theorem cur_begin {M : Mach} {k : Nat} {q : Int} {s : MStep} (hq : M.sess[k]? = some (none, q)) (hs : Formed s k) (h1 : s.kind = 1) (hl : M.all.length < 4096) (hc : M.clock + 1 + s.gap ≤ 1099511627776) :
    (doF M s).2.2 = 0 ∧ Cur (doF M s).1 k M.all.length ⟨(k : Int), q, M.clock + 1 + s.gap, 0, M.clock, 0, 0, [], []⟩ ∧ (doF M s).1.clock = M.clock + 1 + s.gap ∧ (doF M s).1.st = M.st ∧ (doF M s).1.flaw = M.flaw := by
  have hr : refuseF M s = 0 := by rw [refuse_idle hq hs h1 hl, if_neg (by omega)]
  rw [doF_1 hr h1 (k := k) (by rw [hs.ses, Int.toNat_natCast]) (sq := q) (by rw [List.getD_eq_getElem?_getD, hq]; rfl)]
  refine ⟨rfl, ⟨⟨q + 1, ?_⟩, ?_⟩, rfl, rfl, rfl⟩
  · show (M.sess.set k (some M.all.length, q + 1))[k]? = _
    rw [List.getElem?_set, if_pos rfl, if_pos (List.getElem?_eq_some_iff.1 hq).1]
  · show (M.all ++ [_])[M.all.length]? = _
    rw [List.getElem?_append_right (Nat.le_refl _), Nat.sub_self, hs.ses]
    rfl
/-- A step of another session leaves the transaction as it is. -/
theorem cur_other {M : Mach} (hi : MInv M) {k j : Nat} {r : Run} (h : Cur M k j r) {s : MStep} (hs : s.session ≠ (k : Int)) : Cur (doF M s).1 k j r := by
  by_cases hr : refuseF M s = 0
  · obtain ⟨k', ht⟩ := taken hr
    have es : s.session.toNat = k' := by rw [ht.ses]; exact Int.toNat_natCast k'
    have hkk : k' ≠ k := fun e => hs (by rw [ht.ses, e])
    obtain ⟨q, hq⟩ := h.ses
    by_cases e1 : s.kind = 1
    · obtain ⟨q', hx, hc⟩ := taken_none hr e1 ht
      rw [doF_1 hr e1 es (sq := q') (by rw [List.getD_eq_getElem?_getD, hx]; rfl)]
      refine ⟨⟨q, ?_⟩, ?_⟩
      · show (M.sess.set k' _)[k]? = _
        rw [List.getElem?_set, if_neg hkk]
        exact hq
      · show (M.all ++ [_])[j]? = _
        rw [List.getElem?_append_left (List.getElem?_eq_some_iff.1 h.run).1]
        exact h.run
    · obtain ⟨j', q', r', hx, hj, hrs, hcj, hcr, hops⟩ := taken_some hi hr e1 ht
      have hjj : j' ≠ j := fun e => by
        subst e
        obtain ⟨r1, h1, h2⟩ := hi.now k j' q hq
        rw [hj] at h1
        cases h1
        rw [hrs] at h2
        omega
      have put : ∀ (rr : Run), Cur (putR (tick M s.gap) j' rr) k j r := fun rr => by
        refine ⟨⟨q, hq⟩, ?_⟩
        show (M.all.set j' rr)[j]? = _
        rw [List.getElem?_set, if_neg hjj]
        exact h.run
      have fin : ∀ b, Cur (finF (tick M s.gap) k' j' b) k j r := fun b => by
        refine ⟨⟨q, ?_⟩, ?_⟩
        · show (M.sess.set k' _)[k]? = _
          rw [List.getElem?_set, if_neg hkk]
          exact hq
        · show (M.all.set j' _)[j]? = _
          rw [List.getElem?_set, if_neg hjj]
          exact h.run
      by_cases e2 : s.kind = 2
      · rw [doF_2 hr e2 es hcj hcr rfl]; exact put _
      by_cases e3 : s.kind = 3
      · rw [doF_3 hr e3 es hcj hcr]; exact put _
      by_cases e4 : s.kind = 4
      · rw [doF_4 hr e4 es hcj hcr]; exact put _
      by_cases e5 : s.kind = 5
      · rw [doF_5 hr e5 es hcj hcr rfl]; exact fin _
      · rw [doF_6 hr (by have := ht.kind; omega) es hcj]; exact fin _
  · rw [doF_no hr]
    exact h
/-- Steps keep flaw and sessions; the clock does not go back. -/
theorem doF_frame {M : Mach} (hi : MInv M) (s : MStep) : (doF M s).1.flaw = M.flaw ∧ (doF M s).1.sess.length = M.sess.length ∧ M.clock ≤ (doF M s).1.clock := by
  by_cases hr : refuseF M s = 0
  · obtain ⟨k', ht⟩ := taken hr
    have es : s.session.toNat = k' := by rw [ht.ses]; exact Int.toNat_natCast k'
    have hc : M.clock ≤ M.clock + 1 + s.gap := by have := ht.gap; omega
    by_cases e1 : s.kind = 1
    · obtain ⟨q', hx, -⟩ := taken_none hr e1 ht
      rw [doF_1 hr e1 es rfl]
      exact ⟨rfl, List.length_set .., hc⟩
    · obtain ⟨j', q', r', hx, hj, hrs, hcj, hcr, hops⟩ := taken_some hi hr e1 ht
      by_cases e2 : s.kind = 2
      · rw [doF_2 hr e2 es hcj hcr rfl]; exact ⟨rfl, rfl, hc⟩
      by_cases e3 : s.kind = 3
      · rw [doF_3 hr e3 es hcj hcr]; exact ⟨rfl, rfl, hc⟩
      by_cases e4 : s.kind = 4
      · rw [doF_4 hr e4 es hcj hcr]; exact ⟨rfl, rfl, hc⟩
      by_cases e5 : s.kind = 5
      · rw [doF_5 hr e5 es hcj hcr rfl]; exact ⟨rfl, List.length_set .., hc⟩
      · rw [doF_6 hr (by have := ht.kind; omega) es hcj]; exact ⟨rfl, List.length_set .., hc⟩
  · rw [doF_no hr]
    exact ⟨rfl, rfl, Int.le_refl _⟩
theorem playF_frame {M : Mach} (h : MOK M) (xs : List MStep) : MOK (playF M xs) ∧ (playF M xs).flaw = M.flaw ∧ (playF M xs).sess.length = M.sess.length := by
  induction xs generalizing M with
  | nil => exact ⟨h, rfl, rfl⟩
  | cons s xs ih =>
    have h1 := doF_frame h.inv s
    have h2 := ih (doF_ok h s)
    exact ⟨h2.1, h2.2.1.trans h1.1, h2.2.2.trans h1.2.1⟩
/-- What last tells behind one operation more. -/
theorem leftN_pre {ops : List MOp} {o : MOp} {k : ByteArray} : ∀ {n : Nat}, n ≤ ops.length → leftN (ops ++ [o]) k n = leftN ops k n := by
  intro n
  induction n with
  | zero => intro _; rfl
  | succ n ih =>
    intro hn
    obtain ⟨x, hx⟩ : ∃ x, ops[n]? = some x := ⟨_, List.getElem?_eq_getElem (by omega)⟩
    have hx2 : (ops ++ [o])[n]? = some x := by rw [List.getElem?_append_left (by omega)]; exact hx
    by_cases hw : wrote k x = true
    · rw [leftN_yes hx2 hw, leftN_yes hx hw]
    · rw [leftN_no hx2 (by simpa using hw), leftN_no hx (by simpa using hw)]
      exact ih (by omega)
theorem lastV_add {r : Run} (ht : r.times.length = r.ops.length) (o : MOp) (t : Int) (k : ByteArray) : lastV (r.add o t) k = if wrote k o = true then (o, t, true) else lastV r k := by
  have hl : (r.add o t).ops.length = r.ops.length + 1 := by show (r.ops ++ [o]).length = _; rw [List.length_append]; rfl
  have ho : (r.add o t).ops[r.ops.length]? = some o := by show (r.ops ++ [o])[r.ops.length]? = _; rw [List.getElem?_append_right (Nat.le_refl _), Nat.sub_self]; rfl
  unfold lastV
  rw [hl]
  by_cases hw : wrote k o = true
  · rw [if_pos hw, leftN_yes ho hw]
    show ((r.ops ++ [o]).getD r.ops.length MOp.zero, (r.times ++ [t]).getD r.ops.length 0, true) = _
    rw [List.getD_eq_getElem?_getD, List.getD_eq_getElem?_getD, List.getElem?_append_right (Nat.le_refl _), Nat.sub_self, List.getElem?_append_right (by omega), ht, Nat.sub_self]
    rfl
  · rw [if_neg hw, leftN_no ho (by simpa using hw)]
    show (match leftN (r.ops ++ [o]) k r.ops.length with | 0 => _ | i + 1 => _) = _
    rw [leftN_pre (Nat.le_refl _)]
    cases e : leftN r.ops k r.ops.length with
    | zero => rfl
    | succ i =>
      have hi := leftN_le r.ops k r.ops.length
      rw [e] at hi
      show ((r.ops ++ [o]).getD i MOp.zero, (r.times ++ [t]).getD i 0, true) = (r.ops.getD i MOp.zero, r.times.getD i 0, true)
      rw [List.getD_eq_getElem?_getD, List.getD_eq_getElem?_getD, List.getElem?_append_left (by omega), List.getElem?_append_left (by omega), List.getD_eq_getElem?_getD, List.getD_eq_getElem?_getD]

end Go.Proofs.Ytfodagidmdbmlaa
