/- Do, told by the machine alone. -/
import Derived.Test.YtfodagidmdbmlaaMP
namespace Go.Proofs.Ytfodagidmdbmlaa
set_option linter.unusedVariables false
set_option linter.unusedSimpArgs false
open Go.RowKit

/-- A step that is taken, by its kinds. -/
structure Taken (M : Mach) (s : MStep) (k : Nat) : Prop where
  ses : s.session = (k : Int)
  kl : k < M.sess.length
  gap : 0 ≤ s.gap ∧ s.gap ≤ 1000
  kind : 1 ≤ s.kind ∧ s.kind ≤ 6
  key : 2 ≤ s.kind ∧ s.kind ≤ 4 → 1 ≤ s.key.size ∧ s.key.size ≤ 8
  val : s.kind = 3 → s.value.size ≤ 16
  clk : M.clock + 1 + s.gap ≤ 1099511627776
theorem taken {M : Mach} {s : MStep} (h : refuseF M s = 0) : ∃ k, Taken M s k := by
  obtain ⟨h1, -, h3⟩ := refuse_zero h
  obtain ⟨k1, k2, k3, k4, k5⟩ := form_zero h1
  exact ⟨s.session.toNat, by omega, by omega, k3, k1, k4, k5, h3⟩
theorem taken_none {M : Mach} {s : MStep} {k : Nat} (h : refuseF M s = 0) (hk : s.kind = 1) (ht : Taken M s k) : ∃ q, M.sess[k]? = some (none, q) ∧ M.all.length < 4096 := by
  obtain ⟨-, h2, -⟩ := refuse_zero h
  have e : s.session.toNat = k := by rw [ht.ses]; exact Int.toNat_natCast k
  rw [e] at h2
  have hx : M.sess[k]? = some (M.sess[k]'(ht.kl)) := List.getElem?_eq_getElem ht.kl
  have hg : M.sess.getD k (none, 0) = M.sess[k]'(ht.kl) := by rw [List.getD_eq_getElem?_getD, hx]; rfl
  rw [hg] at h2
  rcases h2 with h2 | h2
  · refine ⟨(M.sess[k]'(ht.kl)).2, ?_, h2.2.2⟩
    rw [hx]
    congr 1
    exact Prod.ext h2.2.1 rfl
  · exact absurd hk h2.1
theorem taken_some {M : Mach} {s : MStep} {k : Nat} (hi : MInv M) (h : refuseF M s = 0) (hk : s.kind ≠ 1) (ht : Taken M s k) : ∃ j q r, M.sess[k]? = some (some j, q) ∧ M.all[j]? = some r ∧ r.session = (k : Int) ∧ curJ M k = j ∧ curR M k = r ∧ (2 ≤ s.kind ∧ s.kind ≤ 4 → r.ops.length < 16) := by
  obtain ⟨-, h2, -⟩ := refuse_zero h
  have e : s.session.toNat = k := by rw [ht.ses]; exact Int.toNat_natCast k
  rw [e] at h2
  have hx : M.sess[k]? = some (M.sess[k]'(ht.kl)) := List.getElem?_eq_getElem ht.kl
  have hg : M.sess.getD k (none, 0) = M.sess[k]'(ht.kl) := by rw [List.getD_eq_getElem?_getD, hx]; rfl
  rcases h2 with h2 | h2
  · exact absurd h2.1 hk
  · obtain ⟨-, j, hj, hops⟩ := h2
    rw [hg] at hj
    have hx2 : M.sess[k]? = some (some j, (M.sess[k]'(ht.kl)).2) := by
      rw [hx]
      congr 1
      exact Prod.ext hj rfl
    obtain ⟨r, hr, hrs⟩ := hi.now k j _ hx2
    have hgr : M.all.getD j Run.zero = r := by rw [List.getD_eq_getElem?_getD, hr]; rfl
    rw [hgr] at hops
    have hc : curJ M k = j := by unfold curJ; rw [hg, hj]; rfl
    exact ⟨j, _, r, hx2, hr, hrs, hc, by unfold curR; rw [hc]; exact hgr, hops⟩
theorem add_ok {r : Run} {o : MOp} {t : Int} (h : OpsOK r) (ho : (1 ≤ o.key.size ∧ o.key.size ≤ 8) ∧ (o.kind ≠ 1 → o.value.size ≤ 16 ∧ (o.found = false → o.value.size = 0))) : OpsOK (r.add o t) := by
  intro x hx
  rcases List.mem_append.1 hx with hx | hx
  · exact h x hx
  · rw [List.mem_singleton] at hx
    subst hx
    exact ho
theorem put_ok {M : Mach} (h : MOK M) {j : Nat} {r : Run} (hr : M.all[j]? = some r) (hl : r.ops.length < 16) {o : MOp} (t : Int) (ho : (1 ≤ o.key.size ∧ o.key.size ≤ 8) ∧ (o.kind ≠ 1 → o.value.size ≤ 16 ∧ (o.found = false → o.value.size = 0))) : MOK (putR M j (r.add o t)) := by
  refine putR_ok h hr rfl ?_ ?_ (add_ok (h.inv.keys j r hr) ho)
  · show (r.ops ++ [o]).length ≤ 16
    rw [List.length_append, List.length_singleton]
    omega
  · show (r.times ++ [t]).length = (r.ops ++ [o]).length
    rw [List.length_append, List.length_append, (h.inv.ops j r hr).2]
    rfl
theorem tick_low {M : Mach} {g : Int} (h : MInv M) (h0 : 0 ≤ g) : ∀ k, ∀ x ∈ (tick M g).st.2 k, x.commit < (tick M g).clock := by
  intro k x hx
  have := h.top k x hx
  show x.commit < M.clock + 1 + g
  omega
theorem doF_ok {M : Mach} (h : MOK M) (s : MStep) : MOK (doF M s).1 := by
  by_cases hr : refuseF M s = 0
  · obtain ⟨k, ht⟩ := taken hr
    have es : s.session.toNat = k := by rw [ht.ses]; exact Int.toNat_natCast k
    have hT := tick_ok h ht.gap.1 ht.clk
    by_cases e1 : s.kind = 1
    · obtain ⟨q, hx, hc⟩ := taken_none hr e1 ht
      rw [doF_1 hr e1 es (sq := q) (by rw [List.getD_eq_getElem?_getD, hx]; rfl)]
      exact begin_ok (M := tick M s.gap) hT hx hc _ ht.ses rfl rfl
    · obtain ⟨j, q, r, hx, hj, hrs, hcj, hcr, hops⟩ := taken_some h.inv hr e1 ht
      by_cases e2 : s.kind = 2
      · rw [doF_2 hr e2 es hcj hcr rfl]
        exact put_ok hT hj (hops (by omega)) _ ⟨ht.key (by omega), fun hh => absurd rfl hh⟩
      by_cases e3 : s.kind = 3
      · rw [doF_3 hr e3 es hcj hcr]
        exact put_ok hT hj (hops (by omega)) _ ⟨ht.key (by omega), fun _ => ⟨ht.val e3, fun hh => by cases hh⟩⟩
      by_cases e4 : s.kind = 4
      · rw [doF_4 hr e4 es hcj hcr]
        exact put_ok hT hj (hops (by omega)) _ ⟨ht.key (by omega), fun _ => ⟨Nat.zero_le _, fun _ => rfl⟩⟩
      by_cases e5 : s.kind = 5
      · rw [doF_5 hr e5 es hcj hcr rfl]
        exact finF_ok hT _ hx hj (tick_low h.inv ht.gap.1)
      · rw [doF_6 hr (by have := ht.kind; omega) es hcj]
        exact finF_ok hT _ hx hj (tick_low h.inv ht.gap.1)
  · unfold doF
    rw [if_pos hr]
    exact h
/-- Block m is a machine; its blocks are F. -/
def MM (F : Nat → Prop) (w : World) (m : Nat) (M : Mach) : Prop := ∃ gs p lv pl Fs N, MachAt w m M gs p lv pl Fs N ∧ N ≤ 16 * M.ends.length ∧ MOK M ∧ F = MF m gs lv pl Fs
theorem MM.lt {F : Nat → Prop} {w : World} {m : Nat} {M : Mach} (h : MM F w m M) (i : Nat) (hi : F i) : i < w.heap.size := by
  obtain ⟨gs, p, lv, pl, Fs, N, h1, h2, h3, rfl⟩ := h
  exact h1.mf_lt i hi
theorem MM.ok {F : Nat → Prop} {w : World} {m : Nat} {M : Mach} (h : MM F w m M) : MOK M := by
  obtain ⟨gs, p, lv, pl, Fs, N, h1, h2, h3, rfl⟩ := h
  exact h3
theorem MM.turn {F S : Nat → Prop} {w w' : World} {m : Nat} {M : Mach} (h : MM F w m M) (ht : Turn S w w') (hd : ∀ i, F i → ¬ S i) : MM F w' m M := by
  obtain ⟨gs, p, lv, pl, Fs, N, h1, h2, h3, rfl⟩ := h
  exact ⟨gs, p, lv, pl, Fs, N, h1.turn ht hd, h2, h3, rfl⟩
theorem MM.below {F : Nat → Prop} {w w' : World} {m : Nat} {M : Mach} (h : MM F w m M) (hb : Below w.heap.size w w') : MM F w' m M := h.turn (Turn.of_below hb fun _ => False) fun _ _ => id
def stepV (s : MStep) : Value := .agg #[.int .i64 s.kind, .int .i64 s.session, .int .i64 s.gap, .string s.key, .string s.value]
theorem do_mm (F : Nat → Prop) (m : Nat) (M : Mach) (s : MStep) (w : World) (h : MM F w m M) (hk : s.key.size ≤ maxLen) (hv : s.value.size ≤ maxLen) :
    Calls Try.prog 14 #[.pointer (some ⟨m, 0, none⟩), stepV s] w fun e w' => e = .returned (ansV (doF M s).2.1 (doF M s).2.2) ∧ ∃ F', MM F' w' m (doF M s).1 ∧ (∀ i, F' i → F i ∨ w.heap.size ≤ i) ∧ Turn F w w' := by
  obtain ⟨gs, p, lv, pl, Fs, N, h1, h2, h3, rfl⟩ := h
  refine (do_any m M gs p lv pl Fs N s w h1 h3 h2 hk hv).mono fun e w' hp => ?_
  unfold DoPost at hp
  obtain ⟨he, lv', pl', Fs', N', a1, a2, a3, a4⟩ := hp
  exact ⟨he, _, ⟨gs, p, lv', pl', Fs', N', a1, a2, doF_ok h3 s, rfl⟩, a3, a4⟩
theorem value_mm (F : Nat → Prop) (m : Nat) (M : Mach) (k : ByteArray) (w : World) (h : MM F w m M) (hk : k.size ≤ maxLen) :
    Calls Try.prog 19 #[.pointer (some ⟨m, 0, none⟩), .string k] w fun e w' => e = .returned (.tuple #[.string (valueF M k).1, .bool (valueF M k).2]) ∧ Below w.heap.size w w' := by
  obtain ⟨gs, p, lv, pl, Fs, N, h1, h2, h3, rfl⟩ := h
  exact value_any m M gs p lv pl Fs N k w h1 h3.inv hk (by have := h3.ends; have := h3.inv.cnt; omega)
theorem active_mm (F : Nat → Prop) (m : Nat) (M : Mach) (s : Int) (w : World) (h : MM F w m M) :
    Calls Try.prog 17 #[.pointer (some ⟨m, 0, none⟩), .int .i64 s] w fun e w' => e = .returned (.bool (activeF M s)) ∧ w' = w := by
  obtain ⟨gs, p, lv, pl, Fs, N, h1, h2, h3, rfl⟩ := h
  exact active_any m M gs p lv pl Fs N s w h1 h3.inv.n0
theorem now_mm (F : Nat → Prop) (m : Nat) (M : Mach) (w : World) (h : MM F w m M) :
    Calls Try.prog 30 #[.pointer (some ⟨m, 0, none⟩)] w fun e w' => e = .returned (.int .i64 M.clock) ∧ w' = w := by
  obtain ⟨gs, p, lv, pl, Fs, N, h1, h2, h3, rfl⟩ := h
  exact now_any m M gs p lv pl Fs N w h1

end Go.Proofs.Ytfodagidmdbmlaa
