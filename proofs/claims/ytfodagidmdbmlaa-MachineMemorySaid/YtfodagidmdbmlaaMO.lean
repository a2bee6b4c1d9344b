/- What always holds of the machine; Do in one. -/
import Derived.Test.YtfodagidmdbmlaaMDa
import Derived.Test.YtfodagidmdbmlaaMDb
import Derived.Test.YtfodagidmdbmlaaMDc
import Derived.Test.YtfodagidmdbmlaaMDd
import Derived.Test.YtfodagidmdbmlaaMDr
import Derived.Test.YtfodagidmdbmlaaMDw
namespace Go.Proofs.Ytfodagidmdbmlaa
set_option linter.unusedVariables false
set_option linter.unusedSimpArgs false
open Go.RowKit

theorem do_any (m : Nat) (M : Mach) (gs p : Nat) (lv : Value) (pl : List Pl) (Fs : Nat → Prop) (N : Nat) (s : MStep) (w : World) (h : MachAt w m M gs p lv pl Fs N) (hi : MOK M) (hN : N ≤ 16 * M.ends.length) (hk : s.key.size ≤ maxLen) (hv : s.value.size ≤ maxLen) :
    Calls Try.prog 14 #[.pointer (some ⟨m, 0, none⟩), .agg #[.int .i64 s.kind, .int .i64 s.session, .int .i64 s.gap, .string s.key, .string s.value]] w (DoPost w m M gs p lv pl Fs s) := by
  by_cases hr : refuseF M s = 0
  · obtain ⟨k1, -⟩ := form_zero (refuse_zero hr).1
    by_cases e1 : s.kind = 1
    · exact do_begin m M gs p lv pl Fs N s w h hi hN hk hv hr e1
    by_cases e2 : s.kind = 2
    · exact do_read m M gs p lv pl Fs N s w h hi hN hk hv hr e2
    by_cases e3 : s.kind = 3
    · exact do_write m M gs p lv pl Fs N s w h hi hN hk hv hr e3
    by_cases e4 : s.kind = 4
    · exact do_delete m M gs p lv pl Fs N s w h hi hN hk hv hr e4
    by_cases e5 : s.kind = 5
    · exact do_commit m M gs p lv pl Fs N s w h hi hN hk hv hr e5
    · exact do_abort m M gs p lv pl Fs N s w h hi hN hk hv hr (by omega)
  · exact do_refused m M gs p lv pl Fs N s w h hi hN hk hv hr
/-- Did a transaction write or delete a key? -/
def wroteK (r : Run) (k : ByteArray) : Bool := r.ops.any (wrote k)
theorem countN_all (r : Run) (k : ByteArray) : countN r k r.ops.length = 0 ↔ wroteK r k = false := by
  rw [← countN_zero, List.take_length]
  rfl
theorem leftN_some {ops : List MOp} {k : ByteArray} : ∀ {n i : Nat}, leftN ops k n = i + 1 → ∃ o, ops[i]? = some o ∧ wrote k o = true := by
  intro n
  induction n with
  | zero => intro i h; cases h
  | succ n ih =>
    intro i h
    cases e : ops[n]? with
    | none =>
      have : leftN ops k (n + 1) = leftN ops k n := by
        show (if _ then _ else _) = _
        rw [e]
        exact if_neg (by simp)
      rw [this] at h
      exact ih h
    | some o =>
      by_cases hw : wrote k o = true
      · rw [leftN_yes e hw] at h
        obtain rfl : n = i := by omega
        exact ⟨o, e, hw⟩
      · rw [leftN_no e (by simpa using hw)] at h
        exact ih h
theorem leftN_none {ops : List MOp} {k : ByteArray} : ∀ {n : Nat}, leftN ops k n = 0 → ∀ i o, i < n → ops[i]? = some o → wrote k o = false := by
  intro n
  induction n with
  | zero => intro h i o hi; omega
  | succ n ih =>
    intro h i o hi ho
    cases e : ops[n]? with
    | none =>
      have h2 : leftN ops k (n + 1) = leftN ops k n := by
        show (if _ then _ else _) = _
        rw [e]
        exact if_neg (by simp)
      rw [h2] at h
      by_cases hin : i = n
      · subst hin; rw [e] at ho; cases ho
      · exact ih h i o (by omega) ho
    | some o' =>
      by_cases hw : wrote k o' = true
      · rw [leftN_yes e hw] at h; omega
      · rw [leftN_no e (by simpa using hw)] at h
        by_cases hin : i = n
        · subst hin
          rw [e] at ho
          cases ho
          simpa using hw
        · exact ih h i o (by omega) ho
/-- What last tells is an operation that wrote or deleted the key. -/
theorem lastV_yes {r : Run} {k : ByteArray} (h : (lastV r k).2.2 = true) : (lastV r k).1 ∈ r.ops ∧ wrote k (lastV r k).1 = true := by
  unfold lastV at h ⊢
  cases e : leftN r.ops k r.ops.length with
  | zero => rw [e] at h; cases h
  | succ i =>
    obtain ⟨o, ho, hw⟩ := leftN_some e
    have hg : r.ops.getD i MOp.zero = o := by rw [List.getD_eq_getElem?_getD, ho]; rfl
    show r.ops.getD i MOp.zero ∈ r.ops ∧ wrote k (r.ops.getD i MOp.zero) = true
    rw [hg]
    exact ⟨List.mem_of_getElem? ho, hw⟩
theorem lastV_wrote (r : Run) (k : ByteArray) : (lastV r k).2.2 = wroteK r k := by
  unfold lastV wroteK
  cases e : leftN r.ops k r.ops.length with
  | zero =>
    refine Eq.symm (List.any_eq_false.2 fun o ho => ?_)
    obtain ⟨i, hi⟩ := List.getElem?_of_mem ho
    have := leftN_none e i o (List.getElem?_eq_some_iff.1 hi).1 hi
    simp [this]
  | succ i =>
    obtain ⟨o, ho, hw⟩ := leftN_some e
    exact Eq.symm (List.any_eq_true.2 ⟨o, List.mem_of_getElem? ho, hw⟩)
/-- The operations of a transaction are right. -/
def OpsOK (r : Run) : Prop := ∀ o ∈ r.ops, (1 ≤ o.key.size ∧ o.key.size ≤ 8) ∧ (o.kind ≠ 1 → o.value.size ≤ 16 ∧ (o.found = false → o.value.size = 0))
theorem empty_of {s : ByteArray} (h : s.size = 0) : s.toList.isEmpty = true := by
  obtain ⟨⟨l⟩⟩ := s
  cases l with
  | nil => kernel_rfl
  | cons a l => cases h
theorem leaves_right {r : Run} {k : ByteArray} {c : Int} {j : Nat} (h : OpsOK r) (hw : wroteK r k = true) (hc : 0 ≤ c ∧ c ≤ 1099511627776) (hj : j < 4096) : rightV (leaves c j r k) = true := by
  have hl := lastV_yes (by rw [lastV_wrote]; exact hw)
  have hv := (h _ hl.1).2 (by
    have := hl.2
    unfold wrote at this
    simp only [Bool.and_eq_true, Bool.not_eq_true', beq_eq_false_iff_ne] at this
    exact this.1)
  unfold rightV leaves
  simp only [Bool.and_eq_true, decide_eq_true_eq]
  refine ⟨⟨hc.1, hc.2, by omega, by omega, hv.1⟩, ?_⟩
  cases hf : (lastV r k).1.found with
  | true => rfl
  | false =>
    rw [Bool.false_or]
    exact empty_of (hv.2 hf)
theorem fresh_of {l : List Ver} {v : Ver} (h : ∀ x ∈ l, x.commit < v.commit) : staleV l v = false := by
  unfold staleV
  cases e : l.getLast? with
  | none => rfl
  | some x =>
    have hx := h x (List.mem_of_getLast? e)
    show decide (0 ≤ orI [cmpI x.commit v.commit, cmpI x.writer v.writer]) = false
    refine decide_eq_false ?_
    unfold orI cmpI
    rw [if_pos hx, if_neg (by decide)]
    decide
theorem refuse_of {l : List Ver} {v : Ver} {k : ByteArray} (hk : 1 ≤ k.size ∧ k.size ≤ 8) (hr : rightV v = true) (h : ∀ x ∈ l, x.commit < v.commit) : refuse k v l = 0 := by
  unfold refuse
  rw [if_neg (by omega), if_neg (by rw [hr]; simp), if_neg (by rw [fresh_of h]; simp)]
theorem wrote_key {k : ByteArray} {o : MOp} (h : wrote k o = true) : o.key = k ∧ o.kind ≠ 1 := by
  unfold wrote at h
  simp only [Bool.and_eq_true, Bool.not_eq_true', beq_eq_false_iff_ne, beq_iff_eq] at h
  exact ⟨bytes_eq h.2, h.1⟩
/-- The store behind the end: each key that was written has one version more. -/
theorem instN_spec {st : Store2} {c : Int} {j : Nat} {r : Run} (hr : OpsOK r) (hc : 0 ≤ c ∧ c ≤ 1099511627776) (hj : j < 4096) (ht : ∀ k, ∀ x ∈ st.2 k, x.commit < c) (i : Nat) (k : ByteArray) :
    (instN st c j r i).2 k = if countN r k i = 0 then st.2 k else st.2 k ++ [leaves c j r k] := by
  induction i generalizing k with
  | zero => rfl
  | succ i ih =>
    cases e : r.ops[i]? with
    | none =>
      have h1 : instN st c j r (i + 1) = instN st c j r i := by
        show (match r.ops[i]? with | none => _ | some o => _) = _
        rw [e]
      have h2 : countN r k (i + 1) = countN r k i := by
        unfold countN
        have hl : r.ops.length ≤ i := by
          rcases Nat.lt_or_ge i r.ops.length with h | h
          · rw [List.getElem?_eq_getElem h] at e; cases e
          · exact h
        rw [List.take_of_length_le hl, List.take_of_length_le (by omega)]
      rw [h1, h2]
      exact ih k
    | some o =>
      by_cases hk : o.kind = 1
      · rw [instN_read e hk, countN_no e (by unfold wrote; simp [hk])]
        exact ih k
      · have hwo : wrote o.key o = true := by unfold wrote; simp [hk]
        by_cases hz : countN r o.key i = 0
        · rw [instN_first e hk hz]
          have hmem := List.mem_of_getElem? e
          have hwk : wroteK r o.key = true := List.any_eq_true.2 ⟨o, hmem, hwo⟩
          have hold : (instN st c j r i).2 o.key = st.2 o.key := by rw [ih o.key, if_pos hz]
          have h0 : refuse o.key (leaves c j r o.key) ((instN st c j r i).2 o.key) = 0 := by
            rw [hold]
            exact refuse_of (hr o hmem).1 (leaves_right hr hwk hc hj) (ht o.key)
          unfold play1
          rw [if_pos h0]
          show upd (instN st c j r i).2 o.key _ k = _
          unfold upd
          by_cases ek : k = o.key
          · subst ek
            rw [if_pos rfl, hold, countN_yes e hwo, if_neg (by omega)]
          · rw [if_neg ek, ih k]
            have hwn : wrote k o = false := by
              cases hw : wrote k o with
              | false => rfl
              | true => exact absurd (wrote_key hw).1.symm ek
            rw [countN_no e hwn]
        · rw [instN_again e hk hz, ih k]
          by_cases ek : k = o.key
          · subst ek
            rw [countN_yes e hwo, if_neg hz, if_neg (by omega)]
          · have hwn : wrote k o = false := by
              cases hw : wrote k o with
              | false => rfl
              | true => exact absurd (wrote_key hw).1.symm ek
            rw [countN_no e hwn]

end Go.Proofs.Ytfodagidmdbmlaa
