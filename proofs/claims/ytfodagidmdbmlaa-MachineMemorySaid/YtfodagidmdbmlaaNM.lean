/- The clock's law is kept by every step. -/
import Derived.Test.YtfodagidmdbmlaaNL
namespace Go.Proofs.Ytfodagidmdbmlaa
set_option linter.unusedVariables false
set_option linter.unusedSimpArgs false
open Go.RowKit

theorem clk_fin {n : Nat} {M : Mach} (h : ClkInv n M) {g : Int} (h0 : 0 ≤ g) (h1 : M.clock + 1 + g ≤ 1099511627776) {k j : Nat} {q : Int} {r : Run} (b : Bool) (hx : M.sess[k]? = some (some j, q)) (hr : M.all[j]? = some r) (hrs : r.session = (k : Int)) : ClkInv n (finF (tick M g) k j b) := by
  have hT := clk_tick h h0 h1
  have hok : MOK (finF (tick M g) k j b) := finF_ok hT.ok b hx hr (tick_low h.ok.inv h0)
  obtain ⟨c, hc⟩ : ∃ c, c = M.clock + 1 + g := ⟨_, rfl⟩
  have hcM : M.clock < c := by omega
  have hgr : M.all.getD j Run.zero = r := by rw [List.getD_eq_getElem?_getD, hr]; rfl
  have hgs : M.sess.getD k (none, 0) = (some j, q) := by rw [List.getD_eq_getElem?_getD, hx]; rfl
  have hjl := (List.getElem?_eq_some_iff.1 hr).1
  have hkl := (List.getElem?_eq_some_iff.1 hx).1
  have hne := h.ok.live k j q hx
  obtain ⟨r', hr'⟩ : ∃ r', r' = { r with fin := c, ret := c, status := if b then 1 else 0 } := ⟨_, rfl⟩
  have e1 : (finF (tick M g) k j b).all = M.all.set j r' := by
    show (tick M g).all.set j { (tick M g).all.getD j Run.zero with fin := (tick M g).clock, ret := (tick M g).clock, status := if b then 1 else 0 } = _
    rw [show (tick M g).all.getD j Run.zero = r from hgr, hr', show (tick M g).clock = c from hc.symm]
    rfl
  have e2 : (finF (tick M g) k j b).sess = M.sess.set k (none, q) := by
    show (tick M g).sess.set k (none, ((tick M g).sess.getD k (none, 0)).2) = _
    rw [show (tick M g).sess.getD k (none, 0) = (some j, q) from hgs]
    rfl
  have e3 : (finF (tick M g) k j b).ends = M.ends ++ [j] := rfl
  have e4 : (finF (tick M g) k j b).clock = c := hc.symm
  have p1 : r'.session = (k : Int) := by rw [hr']; exact hrs
  have p2 : r'.start = r.start := by rw [hr']
  have p3 : r'.invoke = r.invoke := by rw [hr']
  have p4 : r'.seq = r.seq := by rw [hr']
  have p5 : r'.fin = c := by rw [hr']
  have p6 : r'.ret = c := by rw [hr']
  clear hr'
  generalize finF (tick M g) k j b = M' at hok e1 e2 e3 e4 ⊢
  have hro : runsOf M' = runsOf M ++ [r'] := by
    unfold runsOf
    rw [e1, e3, List.map_append]
    congr 1
    · refine List.map_congr_left fun i hi => ?_
      exact getD_set i fun e => hne (e ▸ hi)
    · show [(M.all.set j r').getD j Run.zero] = _
      rw [List.getD_eq_getElem?_getD, List.getElem?_set, if_pos rfl, if_pos hjl]
      rfl
  have old : ∀ (i : Nat) (x : Run), M'.all[i]? = some x → ∃ y, M.all[i]? = some y ∧ y.start = x.start ∧ y.invoke = x.invoke ∧ y.session = x.session ∧ y.seq = x.seq := fun i x hi => by
    rw [e1] at hi
    rcases all_set (M := M) hi with ⟨rfl, rfl⟩ | ⟨-, hi⟩
    · exact ⟨r, hr, p2.symm, p3.symm, by rw [p1, hrs], p4.symm⟩
    · exact ⟨x, hi, rfl, rfl, rfl, rfl⟩
  obtain ⟨c1, c2, c3, c4⟩ := h.cur k j q r hx hr
  obtain ⟨⟨r1, r2⟩, r3, r4, r5⟩ := h.run j r hr
  refine ⟨hok, by rw [e2, List.length_set]; exact h.len, fun i x hi => ?_, fun i i' x x' hii hi hi' => ?_, fun i t hi => ?_, fun x hx2 => ?_, ?_, fun k' => ?_, fun k' j' q' x hk' hj' => ?_, fun k' q' hk' => ?_⟩
  · obtain ⟨y, hy, a1, a2, a3, -⟩ := old i x hi
    rw [← a1, ← a2, ← a3, e4]
    obtain ⟨b1, b2, b3⟩ := h.run i y hy
    exact ⟨b1, by omega, b3⟩
  · obtain ⟨y, hy, a1, -⟩ := old i x hi
    obtain ⟨y', hy', a1', -⟩ := old i' x' hi'
    rw [← a1, ← a1']
    exact h.srt i i' y y' hii hy hy'
  · rw [hro] at hi ⊢
    by_cases hl : i < (runsOf M).length
    · rw [List.getElem?_append_left hl] at hi
      rw [List.take_append_of_le_length (Nat.le_of_lt hl)]
      exact h.log i t hi
    · rw [List.getElem?_append_right (by omega)] at hi
      have hz : i - (runsOf M).length = 0 := by
        have := (List.getElem?_eq_some_iff.1 hi).1
        simp at this
        omega
      rw [hz] at hi
      injection hi with hi
      subst hi
      have hi2 : i = (runsOf M).length := by omega
      subst hi2
      rw [List.take_left' rfl]
      refine ⟨by rw [p3, p2]; exact ⟨r1, r2⟩, by rw [p2, p5, p6]; exact ⟨by omega, rfl⟩, by rw [p5]; have := h.lst; omega, by rw [p1, ← hrs]; exact ⟨r4, r5⟩, by rw [p4, p1]; exact c1, by rw [p1, p2]; exact c3, fun x hx2 => ?_⟩
      rw [p2]
      refine ⟨?_, c4 x hx2⟩
      obtain ⟨i', hi', hxa⟩ := runsOf_mem h.ok hx2
      have hij : i' ≠ j := fun e => hne (e ▸ hi')
      rcases Nat.lt_or_gt_of_ne hij with hlt | hlt
      · have := h.srt i' j x r hlt hxa hr; omega
      · have := h.srt j i' r x hlt hr hxa; omega
  · rw [hro, List.mem_append, List.mem_singleton] at hx2
    rw [e4]
    rcases hx2 with hx2 | rfl
    · have := h.fins x hx2; omega
    · rw [p5]; exact Int.le_refl _
  · rw [hro, lastOf_snoc, e4, p5]; exact Int.le_refl _
  · rw [hro, endOf_snoc, e4]
    split
    · rw [p5]; exact Int.le_refl _
    · have := h.enk k'; omega
  · rw [e2, List.getElem?_set] at hk'
    by_cases e : k = k'
    · rw [if_pos e, if_pos hkl] at hk'
      cases hk'
    · rw [if_neg e] at hk'
      have hjj : j' ≠ j := fun e5 => by
        subst e5
        obtain ⟨y1, g1, g2⟩ := h.ok.inv.now k j' q hx
        obtain ⟨y2, g3, g4⟩ := h.ok.inv.now k' j' q' hk'
        rw [g1] at g3
        cases g3
        rw [g2] at g4
        omega
      rw [e1, List.getElem?_set, if_neg (Ne.symm hjj)] at hj'
      obtain ⟨d1, d2, d3, d4⟩ := h.cur k' j' q' x hk' hj'
      have hks : r'.session ≠ (k' : Int) := by rw [p1]; omega
      rw [hro, cntOf_snoc, endOf_snoc, if_neg hks, if_neg hks]
      refine ⟨d1, d2, d3, fun y hy => ?_⟩
      rw [List.mem_append, List.mem_singleton] at hy
      rcases hy with hy | rfl
      · exact d4 y hy
      · have := (h.run j' x hj').2.1
        rw [p5]
        omega
  · rw [e2, List.getElem?_set] at hk'
    by_cases e : k = k'
    · subst e
      rw [if_pos rfl, if_pos hkl] at hk'
      injection hk' with hk'
      injection hk' with hq1 hq2
      rw [hro, cntOf_snoc, if_pos p1, ← hq2, ← c1]
      exact c2
    · rw [if_neg e] at hk'
      rw [hro, cntOf_snoc, if_neg (by rw [p1]; omega)]
      exact h.idle k' q' hk'
theorem clk_do {n : Nat} {M : Mach} (h : ClkInv n M) (s : MStep) : ClkInv n (doF M s).1 := by
  have hok := doF_ok h.ok s
  by_cases hr : refuseF M s = 0
  · obtain ⟨k, ht⟩ := taken hr
    have es : s.session.toNat = k := by rw [ht.ses]; exact Int.toNat_natCast k
    have hT := clk_tick h ht.gap.1 ht.clk
    by_cases e1 : s.kind = 1
    · obtain ⟨q, hx, hc⟩ := taken_none hr e1 ht
      rw [doF_1 hr e1 es (sq := q) (by rw [List.getD_eq_getElem?_getD, hx]; rfl)] at hok ⊢
      exact clk_begin h hx ht.gap.1 hok rfl (by rw [← ht.ses]; rfl) rfl rfl
    · obtain ⟨j, q, r, hx, hj, hrs, hcj, hcr, hops⟩ := taken_some h.ok.inv hr e1 ht
      by_cases e2 : s.kind = 2
      · rw [doF_2 hr e2 es hcj hcr rfl] at hok ⊢
        exact clk_put hT hx hj rfl rfl rfl rfl hok
      by_cases e3 : s.kind = 3
      · rw [doF_3 hr e3 es hcj hcr] at hok ⊢
        exact clk_put hT hx hj rfl rfl rfl rfl hok
      by_cases e4 : s.kind = 4
      · rw [doF_4 hr e4 es hcj hcr] at hok ⊢
        exact clk_put hT hx hj rfl rfl rfl rfl hok
      by_cases e5 : s.kind = 5
      · rw [doF_5 hr e5 es hcj hcr rfl]
        exact clk_fin h ht.gap.1 ht.clk _ hx hj hrs
      · rw [doF_6 hr (by have := ht.kind; omega) es hcj]
        exact clk_fin h ht.gap.1 ht.clk _ hx hj hrs
  · unfold doF
    rw [if_pos hr]
    exact h
theorem clk_play {n : Nat} (xs : List MStep) : ∀ {M : Mach}, ClkInv n M → ClkInv n (playF M xs) := by
  induction xs with
  | nil => intro M h; exact h
  | cons x xs ih => intro M h; exact ih (clk_do h x)
theorem clk_close {n : Nat} {M : Mach} (h : ClkInv n M) : ∀ i, ClkInv n (closeN M i)
  | 0 => h
  | i + 1 => by
    show ClkInv n (if activeF (closeN M i) i = true then (doF (closeN M i) (aK i)).1 else closeN M i)
    split
    · exact clk_do (clk_close h i) _
    · exact clk_close h i
/-- No step opens more than one transaction. -/
theorem all_do (M : Mach) (h : MOK M) (s : MStep) : (doF M s).1.all.length ≤ M.all.length + 1 ∧ (s.kind ≠ 1 → (doF M s).1.all.length = M.all.length) := by
  by_cases hr : refuseF M s = 0
  · obtain ⟨k, ht⟩ := taken hr
    have es : s.session.toNat = k := by rw [ht.ses]; exact Int.toNat_natCast k
    by_cases e1 : s.kind = 1
    · obtain ⟨q, hx, hc⟩ := taken_none hr e1 ht
      rw [doF_1 hr e1 es (sq := q) (by rw [List.getD_eq_getElem?_getD, hx]; rfl)]
      refine ⟨?_, fun h => absurd e1 h⟩
      show (M.all ++ [_]).length ≤ _
      rw [List.length_append, List.length_singleton]
      omega
    · obtain ⟨j, q, r, hx, hj, hrs, hcj, hcr, hops⟩ := taken_some h.inv hr e1 ht
      have key : (doF M s).1.all.length = M.all.length := by
        by_cases e2 : s.kind = 2
        · rw [doF_2 hr e2 es hcj hcr rfl]
          exact List.length_set
        by_cases e3 : s.kind = 3
        · rw [doF_3 hr e3 es hcj hcr]
          exact List.length_set
        by_cases e4 : s.kind = 4
        · rw [doF_4 hr e4 es hcj hcr]
          exact List.length_set
        by_cases e5 : s.kind = 5
        · rw [doF_5 hr e5 es hcj hcr rfl]
          exact List.length_set
        · rw [doF_6 hr (by have := ht.kind; omega) es hcj]
          exact List.length_set
      exact ⟨by omega, fun _ => key⟩
  · unfold doF
    rw [if_pos hr]
    exact ⟨Nat.le_succ _, fun _ => rfl⟩
theorem playF_ok (xs : List MStep) : ∀ {M : Mach}, MOK M → MOK (playF M xs) := by
  induction xs with
  | nil => intro M h; exact h
  | cons x xs ih => intro M h; exact ih (doF_ok h x)
theorem all_play (xs : List MStep) : ∀ {M : Mach}, MOK M → (playF M xs).all.length ≤ M.all.length + xs.length := by
  induction xs with
  | nil => intro M h; exact Nat.le_refl _
  | cons x xs ih =>
    intro M h
    have h1 := ih (doF_ok h x)
    have h2 := (all_do M h x).1
    have h3 : playF M (x :: xs) = playF (doF M x).1 xs := rfl
    rw [h3, List.length_cons]
    omega
theorem closeN_ok {M : Mach} (h : MOK M) : ∀ i, MOK (closeN M i)
  | 0 => h
  | i + 1 => by
    show MOK (if activeF (closeN M i) i = true then (doF (closeN M i) (aK i)).1 else closeN M i)
    split
    · exact doF_ok (closeN_ok h i) _
    · exact closeN_ok h i
theorem all_close {M : Mach} (h : MOK M) : ∀ i, (closeN M i).all.length = M.all.length
  | 0 => rfl
  | i + 1 => by
    show (if activeF (closeN M i) i = true then (doF (closeN M i) (aK i)).1 else closeN M i).all.length = _
    split
    · rw [(all_do _ (closeN_ok h i) _).2 (show (6 : Int) ≠ 1 by decide)]
      exact all_close h i
    · exact all_close h i
theorem emit_clk {n : Nat} (h : n ≤ 64) (f : Int) (xs : List MStep) : ClkInv n (emitM n f xs) := clk_close (clk_play xs (clk_new h f)) n
theorem emit_len {n : Nat} (h : n ≤ 64) (f : Int) (xs : List MStep) : (runsOf (emitM n f xs)).length ≤ xs.length := by
  have h1 := (emit_clk h f xs).ok.ends
  have h2 := all_close (playF_ok xs (machN_ok h f)) n
  have h3 := all_play xs (machN_ok h f)
  have h4 : (machN n f).all.length = 0 := rfl
  unfold runsOf
  rw [List.length_map]
  unfold emitM at h1 ⊢
  omega

end Go.Proofs.Ytfodagidmdbmlaa
