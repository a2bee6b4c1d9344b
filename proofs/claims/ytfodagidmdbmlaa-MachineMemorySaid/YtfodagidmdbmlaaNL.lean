/- MachineClock, told by the machine alone. -/
import Derived.Test.YtfodagidmdbmlaaNK
namespace Go.Proofs.Ytfodagidmdbmlaa
set_option linter.unusedVariables false
set_option linter.unusedSimpArgs false
open Go.RowKit

/-- How many of a session there are, and when its last one ended; when the last of all ended. -/
def cntOf (rs : List Run) (k : Int) : Int := (rs.filter fun r => r.session == k).length
def endOf (rs : List Run) (k : Int) : Int := match (rs.filter fun r => r.session == k).getLast? with | some r => r.fin | none => 0
def lastOf (rs : List Run) : Int := match rs.getLast? with | some r => r.fin | none => 0
theorem cntOf_snoc (rs : List Run) (r : Run) (k : Int) : cntOf (rs ++ [r]) k = if r.session = k then cntOf rs k + 1 else cntOf rs k := by
  unfold cntOf
  rw [List.filter_append, List.filter_cons, List.filter_nil]
  by_cases e : r.session = k
  · rw [if_pos (by simpa using e), if_pos e, List.length_append, List.length_singleton]; omega
  · rw [if_neg (by simpa using e), if_neg e, List.append_nil]
theorem endOf_snoc (rs : List Run) (r : Run) (k : Int) : endOf (rs ++ [r]) k = if r.session = k then r.fin else endOf rs k := by
  unfold endOf
  rw [List.filter_append, List.filter_cons, List.filter_nil]
  by_cases e : r.session = k
  · rw [if_pos (by simpa using e), if_pos e, List.getLast?_append]; rfl
  · rw [if_neg (by simpa using e), if_neg e, List.append_nil]
theorem lastOf_snoc (rs : List Run) (r : Run) : lastOf (rs ++ [r]) = r.fin := by
  unfold lastOf
  rw [List.getLast?_append]
  rfl
/-- A transaction in the log, behind those ahead of it. -/
structure GoodAt (n : Nat) (pre : List Run) (t : Run) : Prop where
  inv : 0 ≤ t.invoke ∧ t.invoke < t.start
  fin : t.start < t.fin ∧ t.fin = t.ret
  last : lastOf pre < t.fin
  ses : 0 ≤ t.session ∧ t.session < n
  seq : t.seq = cntOf pre t.session
  aft : endOf pre t.session < t.start
  dst : ∀ x ∈ pre, x.start ≠ t.start ∧ x.fin ≠ t.start
/-- What the clock makes hold of a machine. -/
structure ClkInv (n : Nat) (M : Mach) : Prop where
  ok : MOK M
  len : M.sess.length = n
  run : ∀ (i : Nat) (r : Run), M.all[i]? = some r → (0 ≤ r.invoke ∧ r.invoke < r.start) ∧ r.start ≤ M.clock ∧ 0 ≤ r.session ∧ r.session < n
  srt : ∀ (i j : Nat) (r r' : Run), i < j → M.all[i]? = some r → M.all[j]? = some r' → r.start < r'.start
  log : ∀ (i : Nat) (t : Run), (runsOf M)[i]? = some t → GoodAt n ((runsOf M).take i) t
  fins : ∀ x ∈ runsOf M, x.fin ≤ M.clock
  lst : lastOf (runsOf M) ≤ M.clock
  enk : ∀ k, endOf (runsOf M) k ≤ M.clock
  cur : ∀ (k j : Nat) (q : Int) (r : Run), M.sess[k]? = some (some j, q) → M.all[j]? = some r → r.seq = cntOf (runsOf M) k ∧ q = r.seq + 1 ∧ endOf (runsOf M) k < r.start ∧ ∀ x ∈ runsOf M, x.fin ≠ r.start
  idle : ∀ (k : Nat) (q : Int), M.sess[k]? = some (none, q) → q = cntOf (runsOf M) k
theorem runsOf_mem {M : Mach} (h : MOK M) {x : Run} (hx : x ∈ runsOf M) : ∃ i, i ∈ M.ends ∧ M.all[i]? = some x := by
  unfold runsOf at hx
  obtain ⟨i, hi, rfl⟩ := List.mem_map.1 hx
  have hl := h.endl i hi
  refine ⟨i, hi, ?_⟩
  rw [List.getD_eq_getElem?_getD, List.getElem?_eq_getElem hl]
  rfl
theorem runsOf_set {M : Mach} {j : Nat} (hj : j ∉ M.ends) (r' : Run) (M' : Mach) (he : M'.ends = M.ends) (ha : M'.all = M.all.set j r') : runsOf M' = runsOf M := by
  unfold runsOf
  rw [he, ha]
  refine List.map_congr_left fun i hi => ?_
  have hne : i ≠ j := fun e => hj (e ▸ hi)
  exact getD_set i hne
theorem clk_new {n : Nat} (h : n ≤ 64) (f : Int) : ClkInv n (machN n f) := by
  refine ⟨machN_ok h f, (by show (List.replicate n _).length = n; rw [List.length_replicate]), fun i r hi => by simp [machN] at hi, fun i j r r' _ hi => by simp [machN] at hi, fun i t hi => by simp [runsOf, machN] at hi, fun x hx => by simp [runsOf, machN] at hx, Int.le_refl _, fun k => Int.le_refl _, fun k j q r hk hj => by simp [machN] at hj, fun k q hk => ?_⟩
  have := List.mem_of_getElem? (show (List.replicate n ((none : Option Nat), (0 : Int)))[k]? = some (none, q) from hk)
  have := List.eq_of_mem_replicate this
  have h2 : q = 0 := congrArg Prod.snd this
  rw [h2]
  rfl
theorem clk_tick {n : Nat} {M : Mach} (h : ClkInv n M) {g : Int} (h0 : 0 ≤ g) (h1 : M.clock + 1 + g ≤ 1099511627776) : ClkInv n (tick M g) := by
  have hc : M.clock ≤ M.clock + 1 + g := by omega
  exact ⟨tick_ok h.ok h0 h1, h.len, fun i r hi => ⟨(h.run i r hi).1, Int.le_trans (h.run i r hi).2.1 hc, (h.run i r hi).2.2⟩, h.srt, h.log, fun x hx => Int.le_trans (h.fins x hx) hc, Int.le_trans h.lst hc, fun k => Int.le_trans (h.enk k) hc, h.cur, h.idle⟩
/-- Its operations don't count. -/
theorem clk_put {n : Nat} {M : Mach} (h : ClkInv n M) {k j : Nat} {q : Int} {r r' : Run} (hx : M.sess[k]? = some (some j, q)) (hr : M.all[j]? = some r) (h1 : r'.session = r.session) (h2 : r'.seq = r.seq) (h3 : r'.start = r.start) (h4 : r'.invoke = r.invoke) (hok : MOK (putR M j r')) : ClkInv n (putR M j r') := by
  have hne := h.ok.live k j q hx
  have hro : runsOf (putR M j r') = runsOf M := runsOf_set hne r' _ rfl rfl
  have old : ∀ (i : Nat) (x : Run), (M.all.set j r')[i]? = some x → ∃ y, M.all[i]? = some y ∧ y.start = x.start ∧ y.invoke = x.invoke ∧ y.session = x.session ∧ y.seq = x.seq := fun i x hi => by
    rcases all_set (M := M) hi with ⟨rfl, rfl⟩ | ⟨-, hi⟩
    · exact ⟨r, hr, h3.symm, h4.symm, h1.symm, h2.symm⟩
    · exact ⟨x, hi, rfl, rfl, rfl, rfl⟩
  refine ⟨hok, h.len, fun i x hi => ?_, fun i i' x x' hii hi hi' => ?_, by rw [hro]; exact h.log, by rw [hro]; exact h.fins, by rw [hro]; exact h.lst, by rw [hro]; exact h.enk, fun k' j' q' x hk' hj' => ?_, by rw [hro]; exact h.idle⟩
  · obtain ⟨y, hy, e1, e2, e3, -⟩ := old i x hi
    rw [← e1, ← e2, ← e3]
    exact h.run i y hy
  · obtain ⟨y, hy, e1, -⟩ := old i x hi
    obtain ⟨y', hy', e1', -⟩ := old i' x' hi'
    rw [← e1, ← e1']
    exact h.srt i i' y y' hii hy hy'
  · obtain ⟨y, hy, e1, e2, e3, e4⟩ := old j' x hj'
    rw [hro, ← e1, ← e4]
    exact h.cur k' j' q' y hk' hy
theorem clk_begin {n : Nat} {M : Mach} (h : ClkInv n M) {k : Nat} {q g : Int} (hx : M.sess[k]? = some (none, q)) (hg : 0 ≤ g) {M' : Mach} (hok : MOK M') (e1 : M'.sess = M.sess.set k (some M.all.length, q + 1)) (e2 : M'.all = M.all ++ [⟨(k : Int), q, M.clock + 1 + g, 0, M.clock, 0, 0, [], []⟩]) (e3 : M'.ends = M.ends) (e4 : M'.clock = M.clock + 1 + g) : ClkInv n M' := by
  have hkl := (List.getElem?_eq_some_iff.1 hx).1
  have hro : runsOf M' = runsOf M := by
    unfold runsOf
    rw [e2, e3]
    refine List.map_congr_left fun i hi => ?_
    rw [List.getD_eq_getElem?_getD, List.getElem?_append_left (h.ok.endl i hi), List.getD_eq_getElem?_getD]
  have c0 := h.ok.inv.c0
  have get : ∀ (i : Nat) (x : Run), M'.all[i]? = some x → (i < M.all.length ∧ M.all[i]? = some x) ∨ (i = M.all.length ∧ x = ⟨(k : Int), q, M.clock + 1 + g, 0, M.clock, 0, 0, [], []⟩) := fun i x hi => by
    rw [e2] at hi
    by_cases e : i < M.all.length
    · rw [List.getElem?_append_left e] at hi
      exact .inl ⟨e, hi⟩
    · rw [List.getElem?_append_right (by omega)] at hi
      have hz : i - M.all.length = 0 := by
        have := (List.getElem?_eq_some_iff.1 hi).1
        simp at this
        omega
      rw [hz] at hi
      injection hi with hi
      exact .inr ⟨by omega, hi.symm⟩
  refine ⟨hok, by rw [e1, List.length_set]; exact h.len, fun i x hi => ?_, fun i i' x x' hii hi hi' => ?_, by rw [hro]; exact h.log, fun x hx => by rw [hro] at hx; rw [e4]; have := h.fins x hx; omega, by rw [hro, e4]; have := h.lst; omega, fun k' => by rw [hro, e4]; have := h.enk k'; omega, fun k' j' q' x hk' hj' => ?_, fun k' q' hk' => ?_⟩
  · rcases get i x hi with ⟨-, hi⟩ | ⟨-, rfl⟩
    · obtain ⟨a, b, c⟩ := h.run i x hi
      exact ⟨a, by rw [e4]; omega, c⟩
    · refine ⟨⟨c0, ?_⟩, ?_, ?_, ?_⟩
      · show M.clock < M.clock + 1 + g; omega
      · rw [e4]; exact Int.le_refl _
      · show (0 : Int) ≤ (k : Int); omega
      · show (k : Int) < n; rw [← h.len]; omega
  · rcases get i x hi with ⟨-, hi⟩ | ⟨rfl, rfl⟩
    · rcases get i' x' hi' with ⟨-, hi'⟩ | ⟨-, rfl⟩
      · exact h.srt i i' x x' hii hi hi'
      · have := (h.run i x hi).2.1
        show x.start < M.clock + 1 + g
        omega
    · rcases get i' x' hi' with ⟨hl, -⟩ | ⟨rfl, -⟩
      · omega
      · omega
  · rw [e1, List.getElem?_set] at hk'
    rw [hro]
    by_cases e : k = k'
    · subst e
      rw [if_pos rfl, if_pos hkl] at hk'
      injection hk' with hk'
      injection hk' with hj1 hq1
      injection hj1 with hj1
      subst hj1
      subst hq1
      rcases get _ x hj' with ⟨hl, -⟩ | ⟨-, rfl⟩
      · omega
      · refine ⟨h.idle k q hx, rfl, ?_, fun y hy => ?_⟩
        · have := h.enk (k : Int); show _ < M.clock + 1 + g; omega
        · have := h.fins y hy; show y.fin ≠ M.clock + 1 + g; omega
    · rw [if_neg e] at hk'
      obtain ⟨y, hy, -⟩ := h.ok.inv.now k' j' q' hk'
      have hl := (List.getElem?_eq_some_iff.1 hy).1
      rcases get j' x hj' with ⟨-, hj'⟩ | ⟨e5, -⟩
      · exact h.cur k' j' q' x hk' hj'
      · omega
  · rw [e1, List.getElem?_set] at hk'
    rw [hro]
    by_cases e : k = k'
    · subst e
      rw [if_pos rfl, if_pos hkl] at hk'
      injection hk' with hk'
      injection hk' with hj1 hq1
      cases hj1
    · rw [if_neg e] at hk'
      exact h.idle k' q' hk'

end Go.Proofs.Ytfodagidmdbmlaa
