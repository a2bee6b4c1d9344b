/- MachineSerial, told by the machine alone. -/
import Derived.Test.YtfodagidmdbmlaaNG
namespace Go.Proofs.Ytfodagidmdbmlaa
set_option linter.unusedVariables false
set_option linter.unusedSimpArgs false
open Go.RowKit

/-- What a step leaves of its key. -/
def leftW (s : MStep) : Bool × ByteArray := (s.kind == 3, if s.kind = 3 then s.value else ⟨#[]⟩)
def stepW (k : ByteArray) (acc : Option (Bool × ByteArray)) (s : MStep) : Option (Bool × ByteArray) := if (s.key.toList == k.toList) = true then some (leftW s) else acc
def lastW (l : List MStep) (k : ByteArray) : Option (Bool × ByteArray) := l.foldl (stepW k) none
theorem lastW_snoc (l : List MStep) (s : MStep) (k : ByteArray) : lastW (l ++ [s]) k = stepW k (lastW l k) s := by
  unfold lastW
  rw [List.foldl_append]
  rfl
theorem foldW (l : List MStep) (k : ByteArray) (acc : Option (Bool × ByteArray)) : l.foldl (stepW k) acc = match lastW l k with | some x => some x | none => acc := by
  have : ∀ (l : List MStep) (acc : Option (Bool × ByteArray)), l.foldl (stepW k) acc = match l.foldl (stepW k) none with | some x => some x | none => acc := by
    intro l
    induction l with
    | nil => intro acc; rfl
    | cons s l ih =>
      intro acc
      rw [List.foldl_cons, List.foldl_cons, ih (stepW k acc s), ih (stepW k none s)]
      cases l.foldl (stepW k) none with
      | some x => rfl
      | none =>
        unfold stepW
        by_cases e : (s.key.toList == k.toList) = true
        · rw [if_pos e, if_pos e]
        · rw [if_neg e, if_neg e]
  exact this l acc
theorem lastW_append (a b : List MStep) (k : ByteArray) : lastW (a ++ b) k = match lastW b k with | some x => some x | none => lastW a k := by
  show (a ++ b).foldl (stepW k) none = _
  rw [List.foldl_append]
  exact foldW b k _
/-- What the whole list leaves of a key. -/
def wantW (l : List MStep) (k : ByteArray) : Bool × ByteArray := (lastW l k).getD (false, ⟨#[]⟩)
def viewV (l : List Ver) : Bool × ByteArray := match l.getLast? with | none => (false, ⟨#[]⟩) | some v => (v.found, v.value)
def ownV (r : Run) (k : ByteArray) : Option (Bool × ByteArray) := if (lastV r k).2.2 = true then some ((lastV r k).1.found, (lastV r k).1.value) else none
theorem at_view {l : List Ver} {t : Int} (h : ∀ x ∈ l, x.commit ≤ t) : (((atV l t).getD Ver.zero).found, ((atV l t).getD Ver.zero).value) = viewV l := by
  unfold atV viewV
  rw [cut_full h, List.getLast?_eq_getElem?]
  by_cases e : 0 < l.length
  · rw [if_pos e]
    cases l[l.length - 1]? with
    | none => rfl
    | some v => rfl
  · rw [if_neg e, List.getElem?_eq_none (by omega)]
    rfl
/-- One session alone: what is committed, and what is under way. -/
structure SerInv (M : Mach) (done now : List MStep) : Prop where
  ok : MOK M
  flaw : M.flaw = 0
  view : ∀ k, viewV (M.st.2 k) = wantW done k
  cur : ((∃ q, M.sess[0]? = some (none, q)) ∧ now = []) ∨ ∃ j r, Cur M 0 j r ∧ (∀ k, ∀ x ∈ M.st.2 k, x.commit ≤ r.start) ∧ ∀ k, ownV r k = lastW now k
theorem ownV_add {r : Run} (ht : r.times.length = r.ops.length) (o : MOp) (t : Int) (k : ByteArray) : ownV (r.add o t) k = if wrote k o = true then some (o.found, o.value) else ownV r k := by
  unfold ownV
  rw [lastV_add ht o t k]
  split
  · rfl
  · rfl
theorem ser_new : SerInv (machN 1 0) [] [] := ⟨machN_ok (by decide) 0, rfl, fun k => rfl, .inl ⟨⟨0, rfl⟩, rfl⟩⟩
/-- What a step of the one session answers and leaves. -/
def SerPost (M : Mach) (done now : List MStep) (s : MStep) : Prop :=
  if s.kind = 1 ∨ s.kind = 6 then SerInv (doF M s).1 done []
  else if s.kind = 3 ∨ s.kind = 4 then SerInv (doF M s).1 done (now ++ [s])
  else if s.kind = 5 then (doF M s).2.1.2.2 = 1 ∧ SerInv (doF M s).1 (done ++ now) []
  else (doF M s).2.1 = ((wantW (done ++ now) s.key).1, (wantW (done ++ now) s.key).2, 0) ∧ SerInv (doF M s).1 done now
theorem ser_step {M : Mach} {done now : List MStep} (h : SerInv M done now) {s : MStep} (hs : s.session = 0) (he : (doF M s).2.2 = 0) : SerPost M done now s := by
  have hr : refuseF M s = 0 := by
    by_cases hr : refuseF M s = 0
    · exact hr
    · rw [doF_no hr] at he
      exact absurd he hr
  obtain ⟨k', ht⟩ := taken hr
  have hk0 : k' = 0 := by have := ht.ses; omega
  subst hk0
  have es : s.session.toNat = 0 := by rw [hs]; rfl
  have ok' := doF_ok h.ok s
  have hT := tick_ok h.ok ht.gap.1 ht.clk
  have kd := ht.kind
  unfold SerPost
  by_cases e1 : s.kind = 1
  · rw [if_pos (.inl e1)]
    obtain ⟨q, hx, hc⟩ := taken_none hr e1 ht
    have hf : Formed s 0 := ⟨ht.ses, ht.gap, ht.kind, ht.key, ht.val⟩
    obtain ⟨-, c2, k2, s2, f2⟩ := cur_begin hx hf e1 hc ht.clk
    refine ⟨ok', f2.trans h.flaw, fun k => by rw [s2]; exact h.view k, .inr ⟨_, _, c2, fun k x hx => ?_, fun k => rfl⟩⟩
    rw [s2] at hx
    have := h.ok.inv.top k x hx
    show x.commit ≤ M.clock + 1 + s.gap
    have := ht.gap
    omega
  · obtain ⟨j, q, r, hx, hj, hrs, hcj, hcr, hops⟩ := taken_some h.ok.inv hr e1 ht
    have hcur : Cur M 0 j r := ⟨⟨q, hx⟩, hj⟩
    obtain ⟨hst, hown⟩ : (∀ k, ∀ x ∈ M.st.2 k, x.commit ≤ r.start) ∧ ∀ k, ownV r k = lastW now k := by
      rcases h.cur with ⟨⟨q', hq'⟩, -⟩ | ⟨j', r', hc', h1, h2⟩
      · rw [hx] at hq'; cases hq'
      · have e : j' = j := by
          obtain ⟨q2, hq2⟩ := hc'.ses
          rw [hx] at hq2
          injection hq2 with hq2
          injection hq2 with hq2
          injection hq2 with hq2
          exact hq2.symm
        subst e
        have := hc'.run
        rw [hj] at this
        cases this
        exact ⟨h1, h2⟩
    have htl := (h.ok.inv.ops j r hj).2
    -- a step that writes
    have wr : ∀ (o : MOp), wrote o.key o = true → o.key = s.key → (o.found, o.value) = leftW s → SerInv (putR (tick M s.gap) j (r.add o (tick M s.gap).clock)) done (now ++ [s]) → True := fun _ _ _ _ _ => trivial
    have mkw : ∀ (o : MOp), MOK (putR (tick M s.gap) j (r.add o (tick M s.gap).clock)) → o.kind ≠ 1 → o.key = s.key → (o.found, o.value) = leftW s → SerInv (putR (tick M s.gap) j (r.add o (tick M s.gap).clock)) done (now ++ [s]) := fun o hok hk1 hok1 hok2 => by
      refine ⟨hok, h.flaw, h.view, .inr ⟨j, _, hcur.put s.gap _, hst, fun k => ?_⟩⟩
      rw [ownV_add htl, lastW_snoc, hok2]
      unfold stepW wrote
      rw [hok1]
      by_cases e : (s.key.toList == k.toList) = true
      · rw [if_pos (by simp [e, hk1]), if_pos e]
      · rw [if_neg (by simp [e]), if_neg e]
        exact hown k
    by_cases e2 : s.kind = 2
    · rw [if_neg (by omega), if_neg (by omega), if_neg (by omega)]
      have hk2 := doF_2 hr e2 es hcj hcr (v := readF (tick M s.gap) j r s.key) rfl
      rw [hk2] at ok' ⊢
      -- what is read
      have hrd : ((readF (tick M s.gap) j r s.key).2, (readF (tick M s.gap) j r s.key).1) = wantW (done ++ now) s.key := by
        unfold wantW
        rw [lastW_append, ← hown s.key]
        unfold ownV
        by_cases hl : (lastV r s.key).2.2 = true
        · rw [if_pos hl]
          unfold readF
          rw [if_pos hl]
          rfl
        · rw [if_neg hl, readF_chain (M := tick M s.gap) h.flaw (by simpa using hl)]
          show _ = (lastW done s.key).getD (false, ⟨#[]⟩)
          have := h.view s.key
          unfold wantW at this
          rw [← this]
          exact at_view (hst s.key)
      refine ⟨?_, ok', h.flaw, h.view, .inr ⟨j, _, hcur.put s.gap _, hst, fun k => ?_⟩⟩
      · rw [← hrd]
      · rw [ownV_add htl, if_neg (by rw [wrote_read]; simp)]
        exact hown k
    by_cases e3 : s.kind = 3
    · rw [if_neg (by omega), if_pos (.inl e3)]
      have hk3 := doF_3 hr e3 es hcj hcr
      rw [hk3] at ok' ⊢
      exact mkw _ ok' (show (2 : Int) ≠ 1 by decide) rfl (by unfold leftW; rw [e3]; rfl)
    by_cases e4 : s.kind = 4
    · rw [if_neg (by omega), if_pos (.inr e4)]
      have hk4 := doF_4 hr e4 es hcj hcr
      rw [hk4] at ok' ⊢
      exact mkw _ ok' (show (3 : Int) ≠ 1 by decide) rfl (by unfold leftW; rw [e4]; rfl)
    by_cases e5 : s.kind = 5
    · rw [if_neg (by omega), if_neg (by omega), if_pos e5]
      -- it passes
      have hp : passF (tick M s.gap) r = true := by
        unfold passF
        have : r.ops.any (lateF (tick M s.gap) r.start) = false := by
          rw [List.any_eq_false]
          intro o ho
          unfold lateF
          rw [show (tick M s.gap).st.2 o.key = M.st.2 o.key from rfl, after_full (hst o.key)]
          simp
        rw [this]
        rfl
      have hk5 := doF_5 hr e5 es hcj hcr hp
      rw [hk5] at ok' ⊢
      refine ⟨rfl, ok', h.flaw, fun k => ?_, .inl ⟨⟨q, ?_⟩, rfl⟩⟩
      · show viewV ((finF (tick M s.gap) 0 j true).st.2 k) = _
        rw [finF_st hT.inv true hj (tick_low h.ok.inv ht.gap.1)]
        unfold wantW
        rw [lastW_append, ← hown k]
        unfold ownV
        by_cases hw : wroteK r k = true
        · rw [if_pos ⟨rfl, hw⟩, if_pos (by rw [lastV_wrote]; exact hw)]
          unfold viewV
          rw [List.getLast?_append]
          rfl
        · rw [if_neg (fun hh => hw hh.2), if_neg (by rw [lastV_wrote]; exact hw)]
          have := h.view k
          unfold wantW at this
          exact this
      · show (M.sess.set 0 (none, (M.sess.getD 0 (none, 0)).2))[0]? = _
        rw [List.getElem?_set, if_pos rfl, if_pos (List.getElem?_eq_some_iff.1 hx).1, List.getD_eq_getElem?_getD, hx]
        rfl
    · have e6 : s.kind = 6 := by omega
      rw [if_pos (.inr e6)]
      have hk6 := doF_6 hr e6 es hcj
      rw [hk6] at ok' ⊢
      refine ⟨ok', h.flaw, h.view, .inl ⟨⟨q, ?_⟩, rfl⟩⟩
      show (M.sess.set 0 (none, (M.sess.getD 0 (none, 0)).2))[0]? = _
      rw [List.getElem?_set, if_pos rfl, if_pos (List.getElem?_eq_some_iff.1 hx).1, List.getD_eq_getElem?_getD, hx]
      rfl

end Go.Proofs.Ytfodagidmdbmlaa
