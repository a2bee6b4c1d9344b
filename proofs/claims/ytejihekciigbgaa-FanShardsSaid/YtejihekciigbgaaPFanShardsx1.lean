-- PRINTED BY print.sh 35421559b90ae4d0a3588c463048766b98c2df88dd9212a6774a882060cdf62d: not written by this session
import Derived.Test.YtejihekciigbgaaPFanShardsx0
namespace Go.Proofs.Ytejihekciigbgaa.PFanShards
open Go.RowKit Go.Proofs.YtejihekciigbgaaW.PrintWords Go.Proofs.YtejihekciigbgaaW.PrintLast Go.Proofs.YtejihekciigbgaaW.PrintMore
attribute [local go_sem] max2_int min2_int max_two min_two max_three min_three max_four min_four   -- for this text's walks alone
set_option linter.unusedVariables false
set_option linter.unusedSimpArgs false

/-! ### fan_Shards: function 9 -/
mutual
def fan_Shards.j0 : Nat → Int → Int → Bool → Option ((List (S27)) × Int)
  | 0, _, _, _ => none
  | k + 1, x0, x1, x19 => if x19 = true then (some (([] : List (S27)), 23)) else (fan_Shards.l0 k x0 x1 ([] : List (S27)) 0 x1 0)
def fan_Shards.l0 : Nat → Int → Int → List (S27) → Int → Int → Int → Option ((List (S27)) × Int)
  | 0, _, _, _, _, _, _ => none
  | k + 1, x0, x1, x6, x7, x20, x21 => if x21 < x20 then (if x1 = 0 then (none) else (if x21 < (Int.tmod x0 x1) then (if x6.length < 8796093022208 then (fan_Shards.l0 k x0 x1 (x6 ++ [(⟨x7, wrap64 (x7 + (wrap64 ((wrap64 (Int.tdiv x0 x1)) + 1)))⟩ : S27)]) (wrap64 (x7 + (wrap64 ((wrap64 (Int.tdiv x0 x1)) + 1)))) x20 (wrap64 (x21 + 1))) else (none)) else (if x6.length < 8796093022208 then (fan_Shards.l0 k x0 x1 (x6 ++ [(⟨x7, wrap64 (x7 + (wrap64 (Int.tdiv x0 x1)))⟩ : S27)]) (wrap64 (x7 + (wrap64 (Int.tdiv x0 x1)))) x20 (wrap64 (x21 + 1))) else (none)))) else (some (x6, 0))
end
def fan_Shards.f (k : Nat) (a0 : Int) (a1 : Int) : Option ((List (S27)) × Int) := if a0 < 0 then (fan_Shards.j0 k a0 a1 true) else (if a1 < 1 then (fan_Shards.j0 k a0 a1 true) else (fan_Shards.j0 k a0 a1 (decide (a1 > 16))))
theorem fan_Shards.mono_l : ∀ k, (∀ y0 y1 y2, LeO (fan_Shards.j0 k y0 y1 y2) (fan_Shards.j0 (k + 1) y0 y1 y2)) ∧ (∀ y0 y1 y2 y3 y4 y5, LeO (fan_Shards.l0 k y0 y1 y2 y3 y4 y5) (fan_Shards.l0 (k + 1) y0 y1 y2 y3 y4 y5))
  | 0 => ⟨fun _ _ _ r h => by simp [fan_Shards.j0] at h, fun _ _ _ _ _ _ r h => by simp [fan_Shards.l0] at h⟩
  | k + 1 => by
    obtain ⟨ih0, ih1⟩ := fan_Shards.mono_l k
    refine ⟨?_, ?_⟩
    · intro y0 y1 y2
      unfold fan_Shards.j0
      repeat' first
      | (with_reducible exact ih0 _ _ _)
      | (with_reducible exact ih1 _ _ _ _ _ _)
      | (with_reducible exact LeO.refl _)
      | (with_reducible exact LeO.none _)
      | (with_reducible refine LeO.ite ?_ ?_)
      | (with_reducible refine LeO.bind ?_ (fun _ => ?_))
      | exact ih0 _ _ _
      | exact ih1 _ _ _ _ _ _
      | exact LeO.none _
      | refine LeO.ite ?_ ?_
      | refine LeO.bind ?_ (fun _ => ?_)
    · intro y0 y1 y2 y3 y4 y5
      unfold fan_Shards.l0
      repeat' first
      | (with_reducible exact ih0 _ _ _)
      | (with_reducible exact ih1 _ _ _ _ _ _)
      | (with_reducible exact LeO.refl _)
      | (with_reducible exact LeO.none _)
      | (with_reducible refine LeO.ite ?_ ?_)
      | (with_reducible refine LeO.bind ?_ (fun _ => ?_))
      | exact ih0 _ _ _
      | exact ih1 _ _ _ _ _ _
      | exact LeO.none _
      | refine LeO.ite ?_ ?_
      | refine LeO.bind ?_ (fun _ => ?_)
theorem fan_Shards.mono : ∀ a0 a1 k, LeO (fan_Shards.f k a0 a1) (fan_Shards.f (k + 1) a0 a1) := by
  intro a0 a1 k
  obtain ⟨ih0, ih1⟩ := fan_Shards.mono_l k
  unfold fan_Shards.f
  repeat' first
      | (with_reducible exact ih0 _ _ _)
      | (with_reducible exact ih1 _ _ _ _ _ _)
      | (with_reducible exact LeO.refl _)
      | (with_reducible exact LeO.none _)
      | (with_reducible refine LeO.ite ?_ ?_)
      | (with_reducible refine LeO.bind ?_ (fun _ => ?_))
      | exact ih0 _ _ _
      | exact ih1 _ _ _ _ _ _
      | exact LeO.none _
      | refine LeO.ite ?_ ?_
      | refine LeO.bind ?_ (fun _ => ?_)
set_option maxHeartbeats 8000000 in
set_option maxRecDepth 100000 in
theorem fan_Shards.calls (k : Nat) (a0 : Int) (a1 : Int) (r1 : List (S27)) (r2 : Int) (w : World) (h : fan_Shards.f k a0 a1 = some (r1, r2)) :
    Calls Try.prog 9 #[.int .i64 a0, .int .i64 a1] w fun e w' => ∃ v0_ : Value, e = .returned (.tuple #[v0_, .int .i64 r2]) ∧ Kd.R k27 27 w' w.heap.size (fun _ => True) v0_ r1 ∧ Below w.heap.size w w' := by
  have hu27 := Try.underlying27
  have HB := Aside0.mk (Below.refl w.heap.size w)
  have H : (if a0 < 0 then (fan_Shards.j0 k a0 a1 true) else (if a1 < 1 then (fan_Shards.j0 k a0 a1 true) else (fan_Shards.j0 k a0 a1 (decide (a1 > 16))))) = some (r1, r2) := h
  clear h
  have HC3 := Aside0.mk H
  clear H
  go_enter Try.func9, Try.ntmps9
  go_upto_region 1 with (fail)
  go_cut [19] (fun v19 wc => ∃ (kq : Nat) (x19_2 : Bool), v19 = .bool x19_2 ∧ Aside0 (fan_Shards.j0 kq a0 a1 x19_2 = some (r1, r2)) ∧ Aside0 (kq ≤ k) ∧ Aside0 (Below w.heap.size w wc))
  case first =>
    have H := HC3.out
    clear HC3
    by_cases c4 : a0 < 0
    · rw [if_pos c4] at H
      have c4b0 : decide (a0 < 0) = true := decide_eq_true c4
      clear c4
      (first | rw [c4b0] | (simp only [i64_w, i32_w]; rw [c4b0]) | skip)
      have H' := Aside0.mk H
      clear H
      go_wp2
      go_meet
      case rel => exact ⟨_, (true), (by first | rfl | (simp; done) | (simp [*]; done)), H', ⟨by first | omega | exact Nat.le_refl _⟩, ⟨by repeat (first | (with_reducible first | exact HB.out | apply below_alloc | apply pw_below_drewN | apply below_drew1) | exact HB.out)⟩⟩
    · rw [if_neg c4] at H
      have c4b0 : decide (a0 < 0) = false := decide_eq_false c4
      clear c4
      (first | rw [c4b0] | (simp only [i64_w, i32_w]; rw [c4b0]) | skip)
      by_cases c5 : a1 < 1
      · rw [if_pos c5] at H
        have c5b0 : decide (a1 < 1) = true := decide_eq_true c5
        clear c5
        have H' := Aside0.mk H
        clear H
        go_wp2
        go_meet
        case rel => exact ⟨_, (true), (by first | rfl | (simp; done) | (simp [*]; done)), H', ⟨by first | omega | exact Nat.le_refl _⟩, ⟨by repeat (first | (with_reducible first | exact HB.out | apply below_alloc | apply pw_below_drewN | apply below_drew1) | exact HB.out)⟩⟩
      · rw [if_neg c5] at H
        have c5b0 : decide (a1 < 1) = false := decide_eq_false c5
        clear c5
        have H' := Aside0.mk H
        clear H
        go_wp2
        go_meet
        case rel => exact ⟨_, (decide (a1 > 16)), (by first | rfl | (simp; done) | (simp [*]; done)), H', ⟨by first | omega | exact Nat.le_refl _⟩, ⟨by repeat (first | (with_reducible first | exact HB.out | apply below_alloc | apply pw_below_drewN | apply below_drew1) | exact HB.out)⟩⟩
  case rest =>
    clear HC3
    try clear p2
    try clear c4
    try clear c4b0
    try clear c5
    try clear c5b0
    obtain ⟨kq, x19_2, rfl, HA, HJ2, HB⟩ := hcut
    cases kq with
    | zero => exact absurd HA.out (by simp [fan_Shards.j0])
    | succ kj2 =>
      have H := HA.out
      clear HA
      simp only [fan_Shards.j0] at H
      by_cases c6 : x19_2 = true
      · subst c6
        have H1 : (some (([] : List (S27)), 23)) = some (r1, r2) := by rw [if_pos rfl] at H; exact H
        clear H
        have H := H1
        clear H1
        simp only [Option.some.injEq, Prod.mk.injEq] at H
        obtain ⟨rfl, rfl⟩ := H
        go_wp2
        go_ret2
        exact ⟨_, by first | rfl | (simp [errW_none, errW_some] <;> rfl) | (simp [*, errW_none, errW_some] <;> rfl), by first | exact Kd.R_nil _ _ _ _ _ | exact Kd.N_nil _ _ _ _ _ | exact Kd.V_nil _ _ _ _ _ | exact Kd.Q_nil _ _ _ _ _ | exact Kd.S_nil _ _ _ _ _, by repeat (first | (with_reducible first | exact HB.out | apply below_alloc | apply pw_below_drewN | apply below_drew1) | exact HB.out)⟩
      · replace c6 := Bool.eq_false_iff.mpr c6
        subst c6
        have H1 : (fan_Shards.l0 kj2 a0 a1 ([] : List (S27)) 0 a1 0) = some (r1, r2) := by rw [if_neg (show ¬ (false = true) by decide)] at H; exact H
        clear H
        have H := H1
        clear H1
        have H' := Aside0.mk H
        clear H
        go_wp2
        go_loopg [6, 7, 21] kj2 (fun kq v6 v7 v21 w' => ∃ (x6_2 : List (S27)) (x7_2 : Int) (x21_2 : Int), v7 = .int .i64 x7_2 ∧ v21 = .int .i64 x21_2 ∧ Aside0 (fan_Shards.l0 kq a0 a1 x6_2 x7_2 a1 x21_2 = some (r1, r2)) ∧ Aside0 (kq ≤ kj2) ∧ Aside0 (Kd.R k27 27 w' w.heap.size (fun _ => True) v6 x6_2) ∧ Aside0 (Below w.heap.size w w'))
        case atStart => exact ⟨(([] : List (S27))), (0), (0), (by first | rfl | (simp; done) | (simp [*]; done)), (by first | rfl | (simp; done) | (simp [*]; done)), H', ⟨Nat.le_refl _⟩, ⟨by first | exact Kd.R_nil _ _ _ _ _ | exact Kd.N_nil _ _ _ _ _ | exact Kd.V_nil _ _ _ _ _ | exact Kd.Q_nil _ _ _ _ _ | exact Kd.S_nil _ _ _ _ _⟩, ⟨by repeat (first | (with_reducible first | exact HB.out | apply below_alloc | apply pw_below_drewN | apply below_drew1) | exact HB.out)⟩⟩
        case round =>
          clear H'
          try clear p2
          try clear c4
          try clear c4b0
          try clear c5
          try clear c5b0
          try clear c6
          try clear p2
          obtain ⟨x6_2, x7_2, x21_2, rfl, rfl, HA, HK2, HO_6, HB⟩ := hrel
          cases gk with
          | zero => exact absurd HA.out (by simp [fan_Shards.l0])
          | succ k2 =>
            have H := HA.out
            clear HA
            simp only [fan_Shards.l0] at H
            by_cases c7 : x21_2 < a1
            · rw [if_pos c7] at H
              have c7b0 : decide (x21_2 < a1) = true := decide_eq_true c7
              clear c7
              by_cases c8 : a1 = 0
              · rw [if_pos c8] at H
                exact absurd H (by simp)
              · rw [if_neg c8] at H
                have c8b0 : (a1 == 0) = false := beq_eq_false_iff_ne.mpr c8
                have c8b1 : (a1 != 0) = true := bne_iff_ne.mpr c8
                by_cases c9 : x21_2 < (Int.tmod a0 a1)
                · rw [if_pos c9] at H
                  have c9b0 : decide (x21_2 < (Int.tmod a0 a1)) = true := decide_eq_true c9
                  clear c9
                  by_cases c10 : x6_2.length < 8796093022208
                  · rw [if_pos c10] at H
                    have LMc10 := Aside0.mk c10
                    clear c10
                    obtain ⟨y101, hy101⟩ : ∃ y_ : List (S27), y_ = (x6_2 ++ [(⟨x7_2, wrap64 (x7_2 + (wrap64 ((wrap64 (Int.tdiv a0 a1)) + 1)))⟩ : S27)]) := ⟨_, rfl⟩
                    replace H : (fan_Shards.l0 k2 a0 a1 y101 (wrap64 (x7_2 + (wrap64 ((wrap64 (Int.tdiv a0 a1)) + 1)))) a1 (wrap64 (x21_2 + 1))) = some (r1, r2) := by first | (rw [hy101]; with_reducible exact H) | (have H2_ := (Option.bind_some _ _).symm.trans H; rw [hy101]; with_reducible exact H2_) | (have H2_ := (Option.bind_some _ _).symm.trans H; with_reducible exact H2_) | with_reducible exact H | (rw [hy101]; exact H) | exact H
                    have Ny101 := Aside0.mk hy101
                    clear hy101
                    have H' := Aside0.mk H
                    clear H
                    go_wp2_with (first | ((with_reducible refine gate_builtin (b := .append) (xs := #[.tmp 34, .tmp 40]) rfl ?_); at_builtin; refine Kd.R_append k27 (w0 := w) w.heap.size rfl (.tmp 34) (.tmp 40) 22 27 (.agg #[(.int .i64 0), (.int .i64 0)]) 16 rfl Try.underlying22 info27 rfl (by decide) (by omega) u6 x6_2 (⟨x7_2, wrap64 (x7_2 + (wrap64 ((wrap64 (Int.tdiv a0 a1)) + 1)))⟩ : S27) [.int .i64 x7_2, .int .i64 (wrap64 (x7_2 + (wrap64 ((wrap64 (Int.tdiv a0 a1)) + 1))))] (fun _ => True) (fun _ => False) rfl rfl ?aP (fun _ hk => hk.elim) ?aF ?aO ?aB ?aS ?aL ?_; (case aP => exact k27_mkM _ _ _ (⟨x7_2, wrap64 (x7_2 + (wrap64 ((wrap64 (Int.tdiv a0 a1)) + 1)))⟩ : S27)); (case aB => exact (by repeat (first | (with_reducible first | exact HB.out | apply below_alloc | apply pw_below_drewN | apply below_drew1) | exact HB.out))); (case aF => exact (fun _ _ => trivial)); (case aO => exact (by (with_reducible repeat (first | apply Kd.R_alloc | apply Kd.R_drewN | apply Kd.R_drew)); exact HO_6.out)); (case aS => exact (below_size (by repeat (first | (with_reducible first | exact HB.out | apply below_alloc | apply pw_below_drewN | apply below_drew1) | exact HB.out)))); (case aL => have := LMc10.out; omega); intro v102 w11 ho hb hg hat; rw [← Ny101.out] at ho; have n0_ := Aside0.mk (hb); have n1_ := Aside0.mk (ho); clear HB; clear HO_6; have HB := n0_; have HO103 := n1_; clear n0_ n1_; clear ho hb hg hat))
                    go_roundg k2
                    case measure => have := HJ2.out; have := HK2.out; omega
                    case rel => exact ⟨(y101), (wrap64 (x7_2 + (wrap64 ((wrap64 (Int.tdiv a0 a1)) + 1)))), (wrap64 (x21_2 + 1)), (by first | rfl | (simp; done) | (simp [*]; done)), (by first | rfl | (simp; done) | (simp [*]; done)), H', ⟨by have := HJ2.out; have := HK2.out; omega⟩, ⟨by (with_reducible repeat (first | apply Kd.R_alloc | apply Kd.R_drewN | apply Kd.R_drew)); exact HO103.out⟩, ⟨by repeat (first | (with_reducible first | exact HB.out | apply below_alloc | apply pw_below_drewN | apply below_drew1) | exact HB.out)⟩⟩
                  · rw [if_neg c10] at H
                    exact absurd H (by simp)
                · rw [if_neg c9] at H
                  have c9b0 : decide (x21_2 < (Int.tmod a0 a1)) = false := decide_eq_false c9
                  clear c9
                  by_cases c12 : x6_2.length < 8796093022208
                  · rw [if_pos c12] at H
                    have LMc12 := Aside0.mk c12
                    clear c12
                    obtain ⟨y104, hy104⟩ : ∃ y_ : List (S27), y_ = (x6_2 ++ [(⟨x7_2, wrap64 (x7_2 + (wrap64 (Int.tdiv a0 a1)))⟩ : S27)]) := ⟨_, rfl⟩
                    replace H : (fan_Shards.l0 k2 a0 a1 y104 (wrap64 (x7_2 + (wrap64 (Int.tdiv a0 a1)))) a1 (wrap64 (x21_2 + 1))) = some (r1, r2) := by first | (rw [hy104]; with_reducible exact H) | (have H2_ := (Option.bind_some _ _).symm.trans H; rw [hy104]; with_reducible exact H2_) | (have H2_ := (Option.bind_some _ _).symm.trans H; with_reducible exact H2_) | with_reducible exact H | (rw [hy104]; exact H) | exact H
                    have Ny104 := Aside0.mk hy104
                    clear hy104
                    have H' := Aside0.mk H
                    clear H
                    go_wp2_with (first | ((with_reducible refine gate_builtin (b := .append) (xs := #[.tmp 34, .tmp 40]) rfl ?_); at_builtin; refine Kd.R_append k27 (w0 := w) w.heap.size rfl (.tmp 34) (.tmp 40) 22 27 (.agg #[(.int .i64 0), (.int .i64 0)]) 16 rfl Try.underlying22 info27 rfl (by decide) (by omega) u6 x6_2 (⟨x7_2, wrap64 (x7_2 + (wrap64 (Int.tdiv a0 a1)))⟩ : S27) [.int .i64 x7_2, .int .i64 (wrap64 (x7_2 + (wrap64 (Int.tdiv a0 a1))))] (fun _ => True) (fun _ => False) rfl rfl ?aP (fun _ hk => hk.elim) ?aF ?aO ?aB ?aS ?aL ?_; (case aP => exact k27_mkM _ _ _ (⟨x7_2, wrap64 (x7_2 + (wrap64 (Int.tdiv a0 a1)))⟩ : S27)); (case aB => exact (by repeat (first | (with_reducible first | exact HB.out | apply below_alloc | apply pw_below_drewN | apply below_drew1) | exact HB.out))); (case aF => exact (fun _ _ => trivial)); (case aO => exact (by (with_reducible repeat (first | apply Kd.R_alloc | apply Kd.R_drewN | apply Kd.R_drew)); exact HO_6.out)); (case aS => exact (below_size (by repeat (first | (with_reducible first | exact HB.out | apply below_alloc | apply pw_below_drewN | apply below_drew1) | exact HB.out)))); (case aL => have := LMc12.out; omega); intro v105 w13 ho hb hg hat; rw [← Ny104.out] at ho; have n0_ := Aside0.mk (hb); have n1_ := Aside0.mk (ho); clear HB; clear HO_6; have HB := n0_; have HO106 := n1_; clear n0_ n1_; clear ho hb hg hat))
                    go_roundg k2
                    case measure => have := HJ2.out; have := HK2.out; omega
                    case rel => exact ⟨(y104), (wrap64 (x7_2 + (wrap64 (Int.tdiv a0 a1)))), (wrap64 (x21_2 + 1)), (by first | rfl | (simp; done) | (simp [*]; done)), (by first | rfl | (simp; done) | (simp [*]; done)), H', ⟨by have := HJ2.out; have := HK2.out; omega⟩, ⟨by (with_reducible repeat (first | apply Kd.R_alloc | apply Kd.R_drewN | apply Kd.R_drew)); exact HO106.out⟩, ⟨by repeat (first | (with_reducible first | exact HB.out | apply below_alloc | apply pw_below_drewN | apply below_drew1) | exact HB.out)⟩⟩
                  · rw [if_neg c12] at H
                    exact absurd H (by simp)
            · rw [if_neg c7] at H
              have c7b0 : decide (x21_2 < a1) = false := decide_eq_false c7
              clear c7
              simp only [Option.some.injEq, Prod.mk.injEq] at H
              obtain ⟨rfl, rfl⟩ := H
              go_wp2
              go_ret2
              exact ⟨_, by first | rfl | (simp [errW_none, errW_some] <;> rfl) | (simp [*, errW_none, errW_some] <;> rfl), by (with_reducible repeat (first | apply Kd.R_alloc | apply Kd.R_drewN | apply Kd.R_drew)); exact HO_6.out, by repeat (first | (with_reducible first | exact HB.out | apply below_alloc | apply pw_below_drewN | apply below_drew1) | exact HB.out)⟩

end Go.Proofs.Ytejihekciigbgaa.PFanShards
