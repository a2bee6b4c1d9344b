/- The walk of the law of refusals. -/
import Derived.Test.YtcfdpeafnpeddaaOne
namespace Go.Proofs.Ytcfdpeafnpeddaa
set_option linter.unusedVariables false
set_option linter.unusedSimpArgs false
open Go.Conc Go.RowKit Go.MuLone

/-- A tree that another tree's step leaves alone. -/
theorem HT.apart {w w' : World} {x y : Pl} {l : Int} {st : List St} {m N : Nat} (h : HT w x l st) (ht : Turn (y.own m) w w') (h1 : ∀ b, x.own st.length b → b < N) (h2 : ∀ b, y.own m b → N ≤ b) : HT w' x l st :=
  h.turn ht fun b hb hy => by have := h1 b hb; have := h2 b hy; omega
theorem one_child (n m : Int) (h0 : 0 ≤ m) (h1 : m ≤ 1099511627776) : childF [⟨-1, n, 0⟩] 0 m = (0, [⟨-1, n, 0⟩, ⟨0, m, 0⟩]) := by
  unfold childF
  rw [if_pos ⟨h0, h1⟩, if_neg (by simp)]
  rfl
theorem child_bad (st : List St) (i : Nat) (m : Int) (h : ¬ (0 ≤ m ∧ m ≤ 1099511627776)) : childF st i m = (10, st) := by
  unfold childF
  rw [if_neg h]
set_option maxRecDepth 100000 in
set_option maxHeartbeats 3200000 in
theorem refuses_walk (n : Int) (w : World) : Calls Try.prog 5 #[.int .i64 n] w fun e w' => e = .returned (.bool true) ∧ Below w.heap.size w w' := by
  have hnot : ∀ (x : Bool) (w : World), (Op.unary .not (.bool x)).run Try.prog w = .ok (.bool (!x)) w := fun _ _ => rfl
  by_cases hn : 0 ≤ n ∧ n ≤ 1099511627776
  · obtain ⟨n0, n1⟩ := hn
    have d0 : decide (0 ≤ n) = true := decide_eq_true n0
    have d1 : decide (n ≤ 1099511627776) = true := decide_eq_true n1
    have Q := Lib.hid (one_child 7 n n0 n1)
    go_enter Try.func5, Try.ntmps5
    go_wp2_with fail
    refine (anchor_any _).mono ?_
    rintro e w0 ⟨rfl, bb0⟩
    have B0 := Lib.hid bb0
    clear bb0
    go_wp2_with fail
    refine (new_yes n w0 n0 n1).mono ?_
    rintro e w1 ⟨x, rfl, h1, bb1, ho⟩
    have H1 := Lib.hid h1
    have B1 := Lib.hid (B0.out.trans (bb1.mono B0.out.size))
    have HO := Lib.hid (fun b hb => Nat.le_trans B0.out.size (ho b hb))
    clear h1 bb1 ho
    go_wp2_with fail
    refine (new_yes 7 w1 (by decide) (by decide)).mono ?_
    rintro e w2 ⟨y, rfl, h2, bb2, ho2⟩
    have X2 := Lib.hid (H1.out.below bb2)
    have XL := Lib.hid (H1.out.lt)
    have Y2 := Lib.hid h2
    have B2 := Lib.hid (B1.out.trans (bb2.mono B1.out.size))
    have YO := Lib.hid ho2
    clear h2 bb2 ho2 H1
    go_wp2_with fail
    refine (child_any y _ 0 n w2 Y2.out (by simp) (one_inv 7 0 (by decide) (by decide))).mono ?_
    rw [Q.out]
    rintro e w3 ⟨y', rfl, h3, t3, o3, hB⟩
    have X3 := Lib.hid (X2.out.apart t3 XL.out YO.out)
    have Y3 := Lib.hid h3
    have sz := B2.out.size
    have ho3 : ∀ b, y'.own 2 b → w1.heap.size ≤ b := fun b hb => by
      rcases o3 b hb with h | h
      · exact YO.out b h
      · have := Y2.out.lt
        exact Nat.le_trans (Nat.le_of_lt (Nat.lt_of_le_of_lt (YO.out _ (.inl rfl)) (Y2.out.lt _ (.inl rfl)))) h
    have YO3 := Lib.hid ho3
    have B3 := Lib.hid (Turn.ownB t3 B2.out fun b hb => Nat.le_trans B1.out.size (YO.out b hb))
    clear h3 t3 o3 hB sz ho3 X2 Y2
    simp only [List.length_cons, List.length_nil, Nat.zero_add, if_true]
    go_wp2_with fail
    refine (left_any x _ 0 _ X3.out (by simp)).mono ?_
    rintro e w4 ⟨rfl, h4, t4⟩
    have Y4 := Lib.hid (Y3.out.turn t4 (fun b hb hx => by have := YO3.out b hb; have := XL.out b hx; omega))
    have B4 := Lib.hid (Turn.ownB t4 B3.out HO.out)
    clear h4 t4 X3 Y3
    simp only [ns, List.getD_cons_zero]
    go_wp2_with fail
    refine (left_any y' _ 1 _ Y4.out (by simp)).mono ?_
    rintro e w5 ⟨rfl, h5, t5⟩
    have Y5 := Lib.hid h5
    have B5 := Lib.hid (Turn.ownB t5 B4.out fun b hb => Nat.le_trans B1.out.size (YO3.out b hb))
    clear h5 t5 Y4 B4
    simp only [ns, List.getD_cons_zero, List.getD_cons_succ]
    go_wp2_with fail
    refine (stopped_any y' _ 1 _ Y5.out (by simp)).mono ?_
    rintro e w6 ⟨rfl, h6, t6⟩
    have B6 := Lib.hid (Turn.ownB t6 B5.out fun b hb => Nat.le_trans B1.out.size (YO3.out b hb))
    clear h6 t6 Y5 B5
    simp only [ns, List.getD_cons_zero, List.getD_cons_succ, decide_true, Bool.not_true]
    go_wp2
    go_ret
    exact ⟨rfl, B6.out⟩
  · have Q := Lib.hid (child_bad [⟨-1, 7, 0⟩] 0 n hn)
    have q := one_beat 7
    rw [if_neg (by decide)] at q
    have Q2 := Lib.hid q
    have N := Lib.hid (fun w => new_no n w hn)
    have hb : (n < 0 ∧ decide (0 ≤ n) = false) ∨ ((0 ≤ n ∧ 1099511627776 < n) ∧ decide (n ≤ 1099511627776) = false) := by
      by_cases h : n < 0
      · exact .inl ⟨h, decide_eq_false (by omega)⟩
      · exact .inr ⟨by omega, decide_eq_false (by omega)⟩
    clear q hn
    rcases hb with ⟨hb, hbd⟩ | ⟨⟨hb, hb2⟩, hbd⟩
    all_goals
      go_enter Try.func5, Try.ntmps5
      go_wp2_with fail
      refine (anchor_any _).mono ?_
      rintro e w0 ⟨rfl, bb0⟩
      have B0 := Lib.hid bb0
      clear bb0
      go_wp2_with fail
      refine (N.out _).mono ?_
      rintro e w1 ⟨rfl, rfl⟩
      go_wp2_with fail
      refine (new_yes 7 _ (by decide) (by decide)).mono ?_
      rintro e w2 ⟨y, rfl, h2, bb2, ho2⟩
      have Y2 := Lib.hid h2
      have B2 := Lib.hid (B0.out.trans (bb2.mono B0.out.size))
      have YO := Lib.hid (fun b hb => Nat.le_trans B0.out.size (ho2 b hb))
      clear h2 bb2 ho2
      go_wp2_with fail
      refine (child_any y _ 0 n w2 Y2.out (by simp) (one_inv 7 0 (by decide) (by decide))).mono ?_
      rw [Q.out]
      rintro e w3 ⟨y', rfl, h3, t3, o3, hB⟩
      have Y3 := Lib.hid h3
      have EB := Lib.hid (hB 0 (by simp))
      have B3 := Lib.hid (Turn.ownB t3 B2.out YO.out)
      have ho3 : ∀ b, y'.own 1 b → w.heap.size ≤ b := fun b hb => by
        rcases o3 b hb with h | h
        · exact YO.out b h
        · exact Nat.le_trans B2.out.size h
      have YO3 := Lib.hid ho3
      clear h3 t3 o3 hB ho3 Y2
      simp only [show ¬ ((10 : Int) = 0) by decide, if_false]
      go_wp2_with fail
      rw [← EB.out]
      refine (left_any y' _ 0 _ Y3.out (by simp)).mono ?_
      rintro e w4 ⟨rfl, h4, t4⟩
      have Y4 := Lib.hid h4
      have B4 := Lib.hid (Turn.ownB t4 B3.out YO3.out)
      clear h4 t4 Y3 B3
      simp only [ns, List.getD_cons_zero]
      go_wp2_with fail
      refine (beat_any y' _ 0 _ Y4.out (by simp) (one_inv 7 0 (by decide) (by decide))).mono ?_
      rintro e w5 ⟨rfl, h5, t5⟩
      rw [Q2.out]
      have B5 := Lib.hid (Turn.ownB t5 B4.out YO3.out)
      clear h5 t5 Y4 B4
      go_wp2
      go_ret
      exact ⟨rfl, B5.out⟩
end Go.Proofs.Ytcfdpeafnpeddaa
