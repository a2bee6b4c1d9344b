/- The walk of the law of beats. -/
import Derived.Test.YtcfdpeafnpeddaaOne
namespace Go.Proofs.Ytcfdpeafnpeddaa
set_option linter.unusedVariables false
set_option linter.unusedSimpArgs false
open Go.Conc Go.RowKit Go.MuLone

set_option maxRecDepth 100000 in
set_option maxHeartbeats 3200000 in
theorem beats_walk (n : Int) (w : World) : Calls Try.prog 3 #[.int .i64 n] w fun e w' => e = .returned (.bool true) ∧ Below w.heap.size w w' := by
  have hnot : ∀ (x : Bool) (w : World), (Op.unary .not (.bool x)).run Try.prog w = .ok (.bool (!x)) w := fun _ _ => rfl
  by_cases hn : 0 ≤ n ∧ n ≤ 2000
  · obtain ⟨n, rfl⟩ : ∃ m : Nat, n = m := ⟨n.toNat, by omega⟩
    have n2 : n ≤ 2000 := by omega
    clear hn
    go_enter Try.func3, Try.ntmps3
    go_wp2_with fail
    refine (anchor_any _).mono ?_
    rintro e w0 ⟨rfl, bb0⟩
    have B0 := Lib.hid bb0
    clear bb0
    go_wp2_with fail
    refine (new_yes n w0 (by omega) (by omega)).mono ?_
    rintro e w1 ⟨x, rfl, h1, bb1, ho⟩
    have H1 := Lib.hid h1
    have B1 := Lib.hid (B0.out.trans (bb1.mono B0.out.size))
    have HO := Lib.hid (fun b hb => Nat.le_trans B0.out.size (ho b hb))
    clear h1 bb1 ho
    go_wp2
    go_loopw [5] (fun v wr => ∃ i : Nat, v = .int .i64 i ∧ i ≤ n ∧ Hid (HT wr x 0 [⟨-1, (n : Int) - i, 0⟩]) ∧ Hid (Below w.heap.size w wr)) (fun v _ => n - (intOf v).toNat)
    case atStart => exact ⟨0, rfl, by omega, Lib.hid (by simpa using H1.out), B1.out⟩
    case round =>
      obtain ⟨i, rfl, hi, HT1, HB⟩ := hrel
      by_cases hlt : i < n
      · have q := one_beat ((n : Int) - i)
        rw [if_neg (by omega)] at q
        have Q := Lib.hid q
        clear q
        go_wp2_with fail
        refine (left_any x _ 0 _ HT1.out (by simp)).mono ?_
        rintro e w2 ⟨rfl, h2, t2⟩
        have H2 := Lib.hid h2
        have B2 := Lib.hid (Turn.ownB t2 HB.out HO.out)
        clear h2 t2 HT1 HB
        simp only [ns, List.getD_cons_zero]
        go_wp2_with fail
        refine (stopped_any x _ 0 _ H2.out (by simp)).mono ?_
        rintro e w3 ⟨rfl, h3, t3⟩
        have H3 := Lib.hid h3
        have B3 := Lib.hid (Turn.ownB t3 B2.out HO.out)
        clear h3 t3 H2 B2
        simp only [ns, List.getD_cons_zero, decide_true, Bool.not_true]
        go_wp2_with fail
        refine (beat_any x _ 0 _ H3.out (by simp) (one_inv _ 0 (by omega) (by omega))).mono ?_
        rintro e w4 ⟨rfl, h4, t4⟩
        rw [Q.out] at h4 ⊢
        have H4 := Lib.hid h4
        have B4 := Lib.hid (Turn.ownB t4 B3.out HO.out)
        clear h4 t4 H3 B3
        go_wp2
        go_roundw
        case rel => exact ⟨i + 1, by go_num, by omega, by rw [show (n : Int) - ((i + 1 : Nat) : Int) = n - i - 1 by omega]; exact H4.out, B4.out⟩
        case measure => simp [intOf]; omega
      · have e0 : (n : Int) - i = 0 := by omega
        rw [e0] at HT1
        have q := one_beat 0
        rw [if_pos rfl] at q
        have Q := Lib.hid q
        have Qd := Lib.hid (one_beat_dead 0 2 (by decide))
        have Qc := Lib.hid (one_cancel_dead 0 2 (by decide))
        clear q e0
        go_wp2_with fail
        refine (stopped_any x _ 0 _ HT1.out (by simp)).mono ?_
        rintro e w2 ⟨rfl, h2, t2⟩
        have H2 := Lib.hid h2
        have B2 := Lib.hid (Turn.ownB t2 HB.out HO.out)
        clear h2 t2 HT1 HB
        simp only [ns, List.getD_cons_zero, decide_true, Bool.not_true]
        go_wp2_with fail
        refine (beat_any x _ 0 _ H2.out (by simp) (one_inv 0 0 (by decide) (by decide))).mono ?_
        rintro e w3 ⟨rfl, h3, t3⟩
        rw [Q.out] at h3 ⊢
        have H3 := Lib.hid h3
        have B3 := Lib.hid (Turn.ownB t3 B2.out HO.out)
        clear h3 t3 H2 B2
        go_wp2_with fail
        refine (beat_any x _ 0 _ H3.out (by simp) (one_inv 0 2 (by decide) (by decide))).mono ?_
        rintro e w4 ⟨rfl, h4, t4⟩
        rw [Qd.out] at h4 ⊢
        have H4 := Lib.hid h4
        have B4 := Lib.hid (Turn.ownB t4 B3.out HO.out)
        clear h4 t4 H3 B3
        go_wp2_with fail
        refine (stopped_any x _ 0 _ H4.out (by simp)).mono ?_
        rintro e w5 ⟨rfl, h5, t5⟩
        have H5 := Lib.hid h5
        have B5 := Lib.hid (Turn.ownB t5 B4.out HO.out)
        clear h5 t5 H4 B4
        simp only [ns, List.getD_cons_zero]
        go_wp2_with fail
        refine (cause_any x _ 0 _ H5.out (by simp)).mono ?_
        rintro e w6 ⟨rfl, h6, t6⟩
        have H6 := Lib.hid h6
        have B6 := Lib.hid (Turn.ownB t6 B5.out HO.out)
        clear h6 t6 H5 B5
        simp only [ns, List.getD_cons_zero]
        go_wp2_with fail
        refine (left_any x _ 0 _ H6.out (by simp)).mono ?_
        rintro e w7 ⟨rfl, h7, t7⟩
        have H7 := Lib.hid h7
        have B7 := Lib.hid (Turn.ownB t7 B6.out HO.out)
        clear h7 t7 H6 B6
        simp only [ns, List.getD_cons_zero]
        go_wp2_with fail
        refine (cancel_any x _ 0 _ H7.out (by simp) (by simp) (one_inv 0 2 (by decide) (by decide)).wf (one_inv 0 2 (by decide) (by decide)).con).mono ?_
        rintro e w8 ⟨rfl, h8, t8⟩
        rw [Qc.out] at h8 ⊢
        have H8 := Lib.hid h8
        have B8 := Lib.hid (Turn.ownB t8 B7.out HO.out)
        clear h8 t8 H7 B7
        go_wp2_with fail
        refine (cause_any x _ 0 _ H8.out (by simp)).mono ?_
        rintro e w9 ⟨rfl, h9, t9⟩
        have B9 := Lib.hid (Turn.ownB t9 B8.out HO.out)
        clear h9 t9 H8 B8
        simp only [ns, List.getD_cons_zero]
        go_wp2
        go_ret
        exact ⟨rfl, B9.out⟩
  · have hb : n < 0 ∨ (0 ≤ n ∧ 2000 < n) := by omega
    clear hn
    rcases hb with hb | ⟨hb, hb2⟩
    all_goals
      go_enter Try.func3, Try.ntmps3
      go_wp2_with fail
      refine (anchor_any _).mono ?_
      rintro e w0 ⟨rfl, bb0⟩
      have B0 := Lib.hid bb0
      clear bb0
      go_wp2
      go_ret
      exact ⟨rfl, B0.out⟩
end Go.Proofs.Ytcfdpeafnpeddaa
