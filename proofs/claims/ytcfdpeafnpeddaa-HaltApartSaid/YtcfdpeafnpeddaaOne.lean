/- A tree of one stop; the laws' anchor. -/
import Derived.Test.YtcfdpeafnpeddaaCh
namespace Go.Proofs.Ytcfdpeafnpeddaa
set_option linter.unusedVariables false
set_option linter.unusedSimpArgs false
open Go.Conc Go.RowKit Go.MuLone

theorem one_inv (n c : Int) (h0 : 0 ≤ n) (h1 : n ≤ 1099511627776) : SInv [⟨-1, n, c⟩] := by
  refine ⟨⟨fun k hk => ?_, fun k hk h => ?_, rfl⟩, fun k p hp _ => ?_, fun k hk => ?_, by simp, by simp⟩
  · simp at hk; subst hk; show (-1 : Int) < _; omega
  · simp at hk; omega
  · by_cases hk : k = 0
    · subst hk
      have : (-1 : Int) = p := hp
      omega
    · rw [ns_out (by simp; omega)] at hp
      have : (-1 : Int) = p := hp
      omega
  · simp at hk; subst hk; exact ⟨h0, h1⟩
theorem one_end (n c : Int) : endS [⟨-1, n, 0⟩] 0 c = [⟨-1, n, c⟩] := by
  refine ns_ext (by rw [endS_length]; rfl) fun k hk => ?_
  rw [endS_length] at hk
  rw [endS_ns _ _ _ _ hk]
  simp at hk
  subst hk
  unfold endAt
  rw [if_pos ⟨rfl, .self⟩]
  rfl
theorem one_beat (n : Int) : beatF [⟨-1, n, 0⟩] 0 = if n = 0 then (false, [⟨-1, n, 2⟩]) else (true, [⟨-1, n - 1, 0⟩]) := by
  have e : spentG [⟨-1, n, 0⟩] (0 + 1) ((0 : Nat) : Int) (-1) = if n = 0 then 0 else -1 := rfl
  have e2 : decG (0 + 1) ((0 : Nat) : Int) [⟨-1, n, 0⟩] = [⟨-1, n - 1, 0⟩] := rfl
  unfold beatF
  rw [if_pos (show (ns [⟨-1, n, 0⟩] 0).cause = 0 from rfl), e, e2]
  by_cases h : n = 0
  · rw [if_pos h, if_pos h, if_pos (by omega)]
    rw [show ((0 : Int)).toNat = 0 from rfl, one_end]
  · rw [if_neg h, if_neg h, if_neg (by omega)]
theorem one_beat_dead (n c : Int) (h : c ≠ 0) : beatF [⟨-1, n, c⟩] 0 = (false, [⟨-1, n, c⟩]) := by
  unfold beatF
  rw [if_neg (show ¬ (ns [⟨-1, n, c⟩] 0).cause = 0 from h)]
theorem one_cancel_dead (n c : Int) (h : c ≠ 0) : cancelF [⟨-1, n, c⟩] 0 = (false, [⟨-1, n, c⟩]) := by
  unfold cancelF
  rw [if_neg (show ¬ (ns [⟨-1, n, c⟩] 0).cause = 0 from h)]
theorem Turn.ownB {x : Pl} {n : Nat} {w0 w w' : World} (ht : Turn (x.own n) w w') (hb : Below w0.heap.size w0 w) (h : ∀ b, x.own n b → w0.heap.size ≤ b) : Below w0.heap.size w0 w' :=
  hb.trans (ht.below hb.size fun i hi ho => absurd (h i ho) (by omega))
set_option maxRecDepth 100000 in
set_option maxHeartbeats 1600000 in
theorem anchor_any (w : World) : Calls Try.prog 10 #[] w fun e w' => e = .returned (.bool true) ∧ Below w.heap.size w w' := by
  have b1 := one_beat 1
  have b2 := one_beat 0
  rw [if_neg (by decide)] at b1
  rw [if_pos rfl] at b2
  have Q1 := Lib.hid b1
  have Q2 := Lib.hid b2
  clear b1 b2
  have hnot : ∀ (x : Bool) (w : World), (Op.unary .not (.bool x)).run Try.prog w = .ok (.bool (!x)) w := fun _ _ => rfl
  go_enter Try.func10, Try.ntmps10
  go_wp2_with fail
  refine (new_yes 1 w (by decide) (by decide)).mono ?_
  rintro e w1 ⟨x, rfl, h1, bb1, ho⟩
  have H1 := Lib.hid h1
  have B1 := Lib.hid bb1
  have HO := Lib.hid ho
  clear h1 bb1 ho
  go_wp2_with fail
  refine (stopped_any x _ 0 _ H1.out (by simp)).mono ?_
  rintro e w2 ⟨rfl, h2, t2⟩
  have H2 := Lib.hid h2
  have B2 := Lib.hid (Turn.ownB t2 B1.out HO.out)
  clear h2 t2 H1 B1
  simp only [ns, List.getD_cons_zero, decide_true, Bool.not_true]
  go_wp2_with fail
  refine (beat_any x _ 0 _ H2.out (by simp) (one_inv 1 0 (by decide) (by decide))).mono ?_
  rintro e w3 ⟨rfl, h3, t3⟩
  rw [Q1.out] at h3 ⊢
  have H3 := Lib.hid h3
  have B3 := Lib.hid (Turn.ownB t3 B2.out HO.out)
  clear h3 t3 H2 B2
  go_wp2_with fail
  refine (beat_any x _ 0 _ H3.out (by simp) (one_inv (1 - 1) 0 (by decide) (by decide))).mono ?_
  rintro e w4 ⟨rfl, h4, t4⟩
  rw [show (1 - 1 : Int) = 0 from rfl, Q2.out] at h4 ⊢
  have H4 := Lib.hid h4
  have B4 := Lib.hid (Turn.ownB t4 B3.out HO.out)
  clear h4 t4 H3 B3
  go_wp2_with fail
  refine (stopped_any x _ 0 _ H4.out (by simp)).mono ?_
  rintro e w5 ⟨rfl, h5, t5⟩
  have H5 := Lib.hid h5
  have B5 := Lib.hid (Turn.ownB t5 B4.out HO.out)
  clear h5 t5 H4 B4
  simp only [ns, List.getD_cons_zero]
  go_wp2_with fail
  refine (cause_any x _ 0 _ H5.out (by simp)).mono ?_
  rintro e w6 ⟨rfl, h6, t6⟩
  have B6 := Lib.hid (Turn.ownB t6 B5.out HO.out)
  clear h6 t6 H5 B5
  simp only [ns, List.getD_cons_zero]
  go_wp2
  go_ret
  exact ⟨rfl, B6.out⟩
end Go.Proofs.Ytcfdpeafnpeddaa
