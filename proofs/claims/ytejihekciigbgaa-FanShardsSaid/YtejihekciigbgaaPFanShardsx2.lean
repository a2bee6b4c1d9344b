-- PRINTED BY print.sh 35421559b90ae4d0a3588c463048766b98c2df88dd9212a6774a882060cdf62d: not written by this session
import Derived.Test.YtejihekciigbgaaPFanShardsx0
import Derived.Test.YtejihekciigbgaaPFanShardsx1
namespace Go.Proofs.Ytejihekciigbgaa.PFanShards
open Go.RowKit Go.Proofs.YtejihekciigbgaaW.PrintWords Go.Proofs.YtejihekciigbgaaW.PrintLast Go.Proofs.YtejihekciigbgaaW.PrintMore
attribute [local go_sem] max2_int min2_int max_two min_two max_three min_three max_four min_four   -- for this text's walks alone
set_option linter.unusedVariables false
set_option linter.unusedSimpArgs false

/-! ### proctorlaw02_FanShards: function 3 -/
mutual
def proctorlaw02_FanShards.j0 : Nat → Int → Int → Bool → Option (Bool)
  | 0, _, _, _ => none
  | k + 1, x0, x1, x35 => if x35 = true then (some false) else ((fan_Shards.f k x0 x1).bind fun bt113 => (if x0 < 0 then (proctorlaw02_FanShards.j1 k x0 x1 bt113.1 bt113.2 true) else (if x1 < 1 then (proctorlaw02_FanShards.j1 k x0 x1 bt113.1 bt113.2 true) else (proctorlaw02_FanShards.j1 k x0 x1 bt113.1 bt113.2 (decide (x1 > 16))))))
def proctorlaw02_FanShards.j1 : Nat → Int → Int → List (S27) → Int → Bool → Option (Bool)
  | 0, _, _, _, _, _ => none
  | k + 1, x0, x1, x5, x6, x51 => if x51 = true then (if x6 = 23 then (some ((x5.length : Int) == 0)) else (some false)) else (if x6 = 0 then (proctorlaw02_FanShards.j2 k x0 x1 x5 ((x5.length : Int) != x1)) else (proctorlaw02_FanShards.j2 k x0 x1 x5 true))
def proctorlaw02_FanShards.j2 : Nat → Int → Int → List (S27) → Bool → Option (Bool)
  | 0, _, _, _, _ => none
  | k + 1, x0, x1, x5, x66 => if x66 = true then (some false) else (proctorlaw02_FanShards.l0 k x0 x1 0 x5 (x5.length : Int) 0)
def proctorlaw02_FanShards.l0 : Nat → Int → Int → Int → List (S27) → Int → Int → Option (Bool)
  | 0, _, _, _, _, _, _ => none
  | k + 1, x0, x1, x7, x67, x68, x69 => if x69 < x68 then (if 0 ≤ x69 then (if x69 < (x67.length : Int) then (if x1 = 0 then (none) else (if x69 < (Int.tmod x0 x1) then (if ((rd_T27 x67 x69).f0) = x7 then (if (wrap64 (((rd_T27 x67 x69).f1) - ((rd_T27 x67 x69).f0))) = (wrap64 ((wrap64 (Int.tdiv x0 x1)) + 1)) then (proctorlaw02_FanShards.l0 k x0 x1 ((rd_T27 x67 x69).f1) x67 x68 (wrap64 (x69 + 1))) else (some false)) else (some false)) else (if ((rd_T27 x67 x69).f0) = x7 then (if (wrap64 (((rd_T27 x67 x69).f1) - ((rd_T27 x67 x69).f0))) = (wrap64 (Int.tdiv x0 x1)) then (proctorlaw02_FanShards.l0 k x0 x1 ((rd_T27 x67 x69).f1) x67 x68 (wrap64 (x69 + 1))) else (some false)) else (some false)))) else (none)) else (none)) else (some (x7 == x0))
end
def proctorlaw02_FanShards.f (k : Nat) (a0 : Int) (a1 : Int) : Option (Bool) := (fan_Shards.f k 5 2).bind fun bt107 => (if bt107.2 = 0 then (if (bt107.1.length : Int) = 2 then (if 0 < (bt107.1.length : Int) then (if ((rd_T27 bt107.1 0).f1) = 3 then (if 1 < (bt107.1.length : Int) then (proctorlaw02_FanShards.j0 k a0 a1 (((rd_T27 bt107.1 1).f1) != 5)) else (none)) else (proctorlaw02_FanShards.j0 k a0 a1 true)) else (none)) else (proctorlaw02_FanShards.j0 k a0 a1 true)) else (proctorlaw02_FanShards.j0 k a0 a1 true))
theorem proctorlaw02_FanShards.mono_l : ∀ k, (∀ y0 y1 y2, LeO (proctorlaw02_FanShards.j0 k y0 y1 y2) (proctorlaw02_FanShards.j0 (k + 1) y0 y1 y2)) ∧ (∀ y0 y1 y2 y3 y4, LeO (proctorlaw02_FanShards.j1 k y0 y1 y2 y3 y4) (proctorlaw02_FanShards.j1 (k + 1) y0 y1 y2 y3 y4)) ∧ (∀ y0 y1 y2 y3, LeO (proctorlaw02_FanShards.j2 k y0 y1 y2 y3) (proctorlaw02_FanShards.j2 (k + 1) y0 y1 y2 y3)) ∧ (∀ y0 y1 y2 y3 y4 y5, LeO (proctorlaw02_FanShards.l0 k y0 y1 y2 y3 y4 y5) (proctorlaw02_FanShards.l0 (k + 1) y0 y1 y2 y3 y4 y5))
  | 0 => ⟨fun _ _ _ r h => by simp [proctorlaw02_FanShards.j0] at h, fun _ _ _ _ _ r h => by simp [proctorlaw02_FanShards.j1] at h, fun _ _ _ _ r h => by simp [proctorlaw02_FanShards.j2] at h, fun _ _ _ _ _ _ r h => by simp [proctorlaw02_FanShards.l0] at h⟩
  | k + 1 => by
    obtain ⟨ih0, ih1, ih2, ih3⟩ := proctorlaw02_FanShards.mono_l k
    refine ⟨?_, ?_, ?_, ?_⟩
    · intro y0 y1 y2
      unfold proctorlaw02_FanShards.j0
      repeat' first
      | (with_reducible exact ih0 _ _ _)
      | (with_reducible exact ih1 _ _ _ _ _)
      | (with_reducible exact ih2 _ _ _ _)
      | (with_reducible exact ih3 _ _ _ _ _ _)
      | (with_reducible exact fan_Shards.mono _ _ _)
      | (with_reducible exact LeO.refl _)
      | (with_reducible exact LeO.none _)
      | (with_reducible refine LeO.ite ?_ ?_)
      | (with_reducible refine LeO.bind ?_ (fun _ => ?_))
      | exact ih0 _ _ _
      | exact ih1 _ _ _ _ _
      | exact ih2 _ _ _ _
      | exact ih3 _ _ _ _ _ _
      | exact fan_Shards.mono _ _ _
      | exact LeO.none _
      | refine LeO.ite ?_ ?_
      | refine LeO.bind ?_ (fun _ => ?_)
    · intro y0 y1 y2 y3 y4
      unfold proctorlaw02_FanShards.j1
      repeat' first
      | (with_reducible exact ih0 _ _ _)
      | (with_reducible exact ih1 _ _ _ _ _)
      | (with_reducible exact ih2 _ _ _ _)
      | (with_reducible exact ih3 _ _ _ _ _ _)
      | (with_reducible exact fan_Shards.mono _ _ _)
      | (with_reducible exact LeO.refl _)
      | (with_reducible exact LeO.none _)
      | (with_reducible refine LeO.ite ?_ ?_)
      | (with_reducible refine LeO.bind ?_ (fun _ => ?_))
      | exact ih0 _ _ _
      | exact ih1 _ _ _ _ _
      | exact ih2 _ _ _ _
      | exact ih3 _ _ _ _ _ _
      | exact fan_Shards.mono _ _ _
      | exact LeO.none _
      | refine LeO.ite ?_ ?_
      | refine LeO.bind ?_ (fun _ => ?_)
    · intro y0 y1 y2 y3
      unfold proctorlaw02_FanShards.j2
      repeat' first
      | (with_reducible exact ih0 _ _ _)
      | (with_reducible exact ih1 _ _ _ _ _)
      | (with_reducible exact ih2 _ _ _ _)
      | (with_reducible exact ih3 _ _ _ _ _ _)
      | (with_reducible exact fan_Shards.mono _ _ _)
      | (with_reducible exact LeO.refl _)
      | (with_reducible exact LeO.none _)
      | (with_reducible refine LeO.ite ?_ ?_)
      | (with_reducible refine LeO.bind ?_ (fun _ => ?_))
      | exact ih0 _ _ _
      | exact ih1 _ _ _ _ _
      | exact ih2 _ _ _ _
      | exact ih3 _ _ _ _ _ _
      | exact fan_Shards.mono _ _ _
      | exact LeO.none _
      | refine LeO.ite ?_ ?_
      | refine LeO.bind ?_ (fun _ => ?_)
    · intro y0 y1 y2 y3 y4 y5
      unfold proctorlaw02_FanShards.l0
      repeat' first
      | (with_reducible exact ih0 _ _ _)
      | (with_reducible exact ih1 _ _ _ _ _)
      | (with_reducible exact ih2 _ _ _ _)
      | (with_reducible exact ih3 _ _ _ _ _ _)
      | (with_reducible exact fan_Shards.mono _ _ _)
      | (with_reducible exact LeO.refl _)
      | (with_reducible exact LeO.none _)
      | (with_reducible refine LeO.ite ?_ ?_)
      | (with_reducible refine LeO.bind ?_ (fun _ => ?_))
      | exact ih0 _ _ _
      | exact ih1 _ _ _ _ _
      | exact ih2 _ _ _ _
      | exact ih3 _ _ _ _ _ _
      | exact fan_Shards.mono _ _ _
      | exact LeO.none _
      | refine LeO.ite ?_ ?_
      | refine LeO.bind ?_ (fun _ => ?_)
theorem proctorlaw02_FanShards.mono : ∀ a0 a1 k, LeO (proctorlaw02_FanShards.f k a0 a1) (proctorlaw02_FanShards.f (k + 1) a0 a1) := by
  intro a0 a1 k
  obtain ⟨ih0, ih1, ih2, ih3⟩ := proctorlaw02_FanShards.mono_l k
  unfold proctorlaw02_FanShards.f
  repeat' first
      | (with_reducible exact ih0 _ _ _)
      | (with_reducible exact ih1 _ _ _ _ _)
      | (with_reducible exact ih2 _ _ _ _)
      | (with_reducible exact ih3 _ _ _ _ _ _)
      | (with_reducible exact fan_Shards.mono _ _ _)
      | (with_reducible exact LeO.refl _)
      | (with_reducible exact LeO.none _)
      | (with_reducible refine LeO.ite ?_ ?_)
      | (with_reducible refine LeO.bind ?_ (fun _ => ?_))
      | exact ih0 _ _ _
      | exact ih1 _ _ _ _ _
      | exact ih2 _ _ _ _
      | exact ih3 _ _ _ _ _ _
      | exact fan_Shards.mono _ _ _
      | exact LeO.none _
      | refine LeO.ite ?_ ?_
      | refine LeO.bind ?_ (fun _ => ?_)
set_option maxHeartbeats 8000000 in
set_option maxRecDepth 100000 in
theorem proctorlaw02_FanShards.calls (k : Nat) (a0 : Int) (a1 : Int) (r : Bool) (w : World) (h : proctorlaw02_FanShards.f k a0 a1 = some r) :
    Calls Try.prog 3 #[.int .i64 a0, .int .i64 a1] w fun e w' => e = .returned (.bool r) ∧ Below w.heap.size w w' := by
  have hu27 := Try.underlying27
  have HB := Aside0.mk (Below.refl w.heap.size w)
  have H : ((fan_Shards.f k 5 2).bind fun bt107 => (if bt107.2 = 0 then (if (bt107.1.length : Int) = 2 then (if 0 < (bt107.1.length : Int) then (if ((rd_T27 bt107.1 0).f1) = 3 then (if 1 < (bt107.1.length : Int) then (proctorlaw02_FanShards.j0 k a0 a1 (((rd_T27 bt107.1 1).f1) != 5)) else (none)) else (proctorlaw02_FanShards.j0 k a0 a1 true)) else (none)) else (proctorlaw02_FanShards.j0 k a0 a1 true)) else (proctorlaw02_FanShards.j0 k a0 a1 true))) = some r := h
  clear h
  replace H := Option.bind_eq_some_iff.mp H
  obtain ⟨⟨t107, t108⟩, A30, H⟩ := H
  replace H : (if t108 = 0 then (if (t107.length : Int) = 2 then (if 0 < (t107.length : Int) then (if ((rd_T27 t107 0).f1) = 3 then (if 1 < (t107.length : Int) then (proctorlaw02_FanShards.j0 k a0 a1 (((rd_T27 t107 1).f1) != 5)) else (none)) else (proctorlaw02_FanShards.j0 k a0 a1 true)) else (none)) else (proctorlaw02_FanShards.j0 k a0 a1 true)) else (proctorlaw02_FanShards.j0 k a0 a1 true)) = some r := H
  have A3 := Aside0.mk A30
  clear A30
  have HC4 := Aside0.mk H
  clear H
  go_enter Try.func3, Try.ntmps3
  go_upto_region 2 with (first | ((with_reducible refine gate_callee (f := 9) rfl ?_); refine goesL_ (some 12) rfl rfl Try.func9 (by kernel_rfl) rfl #[.int .i64 5, .int .i64 2] rfl (by (try simp only [List.map_toArray, List.map_cons, List.map_nil]); first | done | rfl | (simp only [List.length_drop, List.length_take]; rfl)) ?_; (with_reducible refine (fan_Shards.calls k 5 2 t107 t108 _ A3.out).mono ?_); rintro e w5 ⟨v109, rfl, ho0, hb⟩; refine ⟨_, rfl, ?_⟩; have n0_ := Aside0.mk (Kd.R_lower ho0 (below_size (by repeat (first | (with_reducible first | exact HB.out | apply below_alloc | apply pw_below_drewN | apply below_drew1) | exact HB.out)))); have n1_ := Aside0.mk (below_step (by repeat (first | (with_reducible first | exact HB.out | apply below_alloc | apply pw_below_drewN | apply below_drew1) | exact HB.out)) hb); clear HB; have HO110 := n0_; have HB := n1_; clear n0_ n1_; (try clear hb); (try clear hb2); (try clear hk); (try clear hi); (try clear ho0)))
  (try simp only [Act.put, List.setIfInBounds_toArray, List.set_cons_zero, List.set_cons_succ])
  go_cut [35] (fun v35 wc => ∃ (kq : Nat) (x35_3 : Bool), v35 = .bool x35_3 ∧ Aside0 (proctorlaw02_FanShards.j0 kq a0 a1 x35_3 = some r) ∧ Aside0 (kq ≤ k) ∧ Aside0 (Below w.heap.size w wc))
  case first =>
    have H := HC4.out
    clear HC4
    by_cases c6 : t108 = 0
    · rw [if_pos c6] at H
      have c6b0 : (t108 == 0) = true := beq_iff_eq.mpr c6
      have c6b1 : (t108 != 0) = false := bne_eq_false_iff_eq.mpr c6
      clear c6
      (first | rw [c6b0] | (simp only [i64_w, i32_w]; rw [c6b0]) | skip)
      by_cases c7 : (t107.length : Int) = 2
      · rw [if_pos c7] at H
        have c7b0 : ((t107.length : Int) == 2) = true := beq_iff_eq.mpr c7
        have c7b1 : ((t107.length : Int) != 2) = false := bne_eq_false_iff_eq.mpr c7
        clear c7
        by_cases c8 : 0 < (t107.length : Int)
        · rw [if_pos c8] at H
          have c8b0 : decide (0 < (t107.length : Int)) = true := decide_eq_true c8
          have c8b1 : decide (0 < t107.length) = true := decide_eq_true (by omega)
          clear c8
          by_cases c9 : ((rd_T27 t107 0).f1) = 3
          · rw [if_pos c9] at H
            have c9b0 : (((rd_T27 t107 0).f1) == 3) = true := beq_iff_eq.mpr c9
            have c9b1 : (((rd_T27 t107 0).f1) != 3) = false := bne_eq_false_iff_eq.mpr c9
            clear c9
            by_cases c10 : 1 < (t107.length : Int)
            · rw [if_pos c10] at H
              have c10b0 : decide (1 < (t107.length : Int)) = true := decide_eq_true c10
              have c10b1 : decide (1 < t107.length) = true := decide_eq_true (by omega)
              clear c10
              have H' := Aside0.mk H
              clear H
              obtain ⟨Ao11, co11, eo11⟩ := Kd.R_slice HO110.out
              subst eo11
              have p111 : 0 ≤ (0 : Int) := (by omega)
              have q111 : 0 < (t107.length : Int) := of_decide_eq_true (by first | (with_reducible assumption) | assumption)
              obtain ⟨ad111, e111, hx111_0, hx111_1⟩ := at_T27 (Kd.R_reads' HO110.out).2.2 0 p111 q111
              cases e111
              have qi111 : (0 < t107.length) = True := eq_true (by omega)
              (try rw [show ((0 : Int)).toNat = 0 from rfl] at hx111_0)
              (try rw [show 0 * 2 = 0 from rfl] at hx111_0)
              (try rw [Addr.add_zero'] at hx111_0)
              (try rw [show ((0 : Int)).toNat = 0 from rfl] at hx111_1)
              (try rw [show 0 * 2 = 0 from rfl] at hx111_1)
              (try rw [Addr.add_zero'] at hx111_1)
              replace p111 := eq_true p111
              replace q111 := eq_true q111
              have p112 : 0 ≤ (1 : Int) := (by omega)
              have q112 : 1 < (t107.length : Int) := of_decide_eq_true (by first | (with_reducible assumption) | assumption)
              obtain ⟨ad112, e112, hx112_0, hx112_1⟩ := at_T27 (Kd.R_reads' HO110.out).2.2 1 p112 q112
              obtain rfl : ad111 = ad112 := (by injection e112)
              (try simp only [show (1 : Int).toNat = 1 from rfl, Nat.reduceMul, Nat.reduceEqDiff, Go.Addr.add, ↓reduceIte] at hx112_0)
              (try simp only [show (1 : Int).toNat = 1 from rfl, Nat.reduceMul, Nat.reduceEqDiff, Go.Addr.add, ↓reduceIte] at hx112_1)
              have qi112 : (1 < t107.length) = True := eq_true (by omega)
              (try rw [show ((1 : Int)).toNat = 1 from rfl] at hx112_0)
              (try rw [show 1 * 2 = 2 from rfl] at hx112_0)
              (try rw [show ((1 : Int)).toNat = 1 from rfl] at hx112_1)
              (try rw [show 1 * 2 = 2 from rfl] at hx112_1)
              replace p112 := eq_true p112
              replace q112 := eq_true q112
              go_wp2
              go_meet
              case rel => exact ⟨_, ((((rd_T27 t107 1).f1) != 5)), (by first | rfl | (simp; done) | (simp [*]; done)), H', ⟨by first | omega | exact Nat.le_refl _⟩, ⟨by repeat (first | (with_reducible first | exact HB.out | apply below_alloc | apply pw_below_drewN | apply below_drew1) | exact HB.out)⟩⟩
            · rw [if_neg c10] at H
              exact absurd H (by simp)
          · rw [if_neg c9] at H
            have c9b0 : (((rd_T27 t107 0).f1) == 3) = false := beq_eq_false_iff_ne.mpr c9
            have c9b1 : (((rd_T27 t107 0).f1) != 3) = true := bne_iff_ne.mpr c9
            have H' := Aside0.mk H
            clear H
            obtain ⟨Ao12, co12, eo12⟩ := Kd.R_slice HO110.out
            subst eo12
            have p111 : 0 ≤ (0 : Int) := (by omega)
            have q111 : 0 < (t107.length : Int) := of_decide_eq_true (by first | (with_reducible assumption) | assumption)
            obtain ⟨ad111, e111, hx111_0, hx111_1⟩ := at_T27 (Kd.R_reads' HO110.out).2.2 0 p111 q111
            cases e111
            have qi111 : (0 < t107.length) = True := eq_true (by omega)
            (try rw [show ((0 : Int)).toNat = 0 from rfl] at hx111_0)
            (try rw [show 0 * 2 = 0 from rfl] at hx111_0)
            (try rw [Addr.add_zero'] at hx111_0)
            (try rw [show ((0 : Int)).toNat = 0 from rfl] at hx111_1)
            (try rw [show 0 * 2 = 0 from rfl] at hx111_1)
            (try rw [Addr.add_zero'] at hx111_1)
            replace p111 := eq_true p111
            replace q111 := eq_true q111
            go_wp2
            go_meet
            case rel => exact ⟨_, (true), (by first | rfl | (simp; done) | (simp [*]; done)), H', ⟨by first | omega | exact Nat.le_refl _⟩, ⟨by repeat (first | (with_reducible first | exact HB.out | apply below_alloc | apply pw_below_drewN | apply below_drew1) | exact HB.out)⟩⟩
        · rw [if_neg c8] at H
          exact absurd H (by simp)
      · rw [if_neg c7] at H
        have c7b0 : ((t107.length : Int) == 2) = false := beq_eq_false_iff_ne.mpr c7
        have c7b1 : ((t107.length : Int) != 2) = true := bne_iff_ne.mpr c7
        have H' := Aside0.mk H
        clear H
        obtain ⟨Ao13, co13, eo13⟩ := Kd.R_slice HO110.out
        subst eo13
        go_wp2
        go_meet
        case rel => exact ⟨_, (true), (by first | rfl | (simp; done) | (simp [*]; done)), H', ⟨by first | omega | exact Nat.le_refl _⟩, ⟨by repeat (first | (with_reducible first | exact HB.out | apply below_alloc | apply pw_below_drewN | apply below_drew1) | exact HB.out)⟩⟩
    · rw [if_neg c6] at H
      have c6b0 : (t108 == 0) = false := beq_eq_false_iff_ne.mpr c6
      have c6b1 : (t108 != 0) = true := bne_iff_ne.mpr c6
      (first | rw [c6b0] | (simp only [i64_w, i32_w]; rw [c6b0]) | skip)
      have H' := Aside0.mk H
      clear H
      go_wp2
      go_meet
      case rel => exact ⟨_, (true), (by first | rfl | (simp; done) | (simp [*]; done)), H', ⟨by first | omega | exact Nat.le_refl _⟩, ⟨by repeat (first | (with_reducible first | exact HB.out | apply below_alloc | apply pw_below_drewN | apply below_drew1) | exact HB.out)⟩⟩
  case rest =>
    clear HC4
    try clear c1
    try clear p1
    try clear q1
    try clear hx1
    try clear qi1
    try clear p2
    try clear c3
    try clear c6
    try clear c6b0
    try clear c6b1
    try clear c7
    try clear c7b0
    try clear c7b1
    try clear c8
    try clear c8b0
    try clear c8b1
    try clear c9
    try clear c9b0
    try clear c9b1
    try clear c10
    try clear c10b0
    try clear c10b1
    try clear p11
    try clear q11
    try clear hx11
    try clear qi11
    try clear hx111_0
    try clear hx111_1
    try clear hx112_0
    try clear hx112_1
    try clear p111
    try clear p112
    try clear q111
    try clear q112
    obtain ⟨kq, x35_3, rfl, HA, HJ3, HB⟩ := hcut
    cases kq with
    | zero => exact absurd HA.out (by simp [proctorlaw02_FanShards.j0])
    | succ kj3 =>
      have H := HA.out
      clear HA
      simp only [proctorlaw02_FanShards.j0] at H
      by_cases c14 : x35_3 = true
      · subst c14
        have H1 : (some false) = some r := by rw [if_pos rfl] at H; exact H
        clear H
        have H := H1
        clear H1
        obtain rfl := Option.some.inj H
        go_wp2
        go_ret
        exact ⟨by first | rfl | (simp [errW_none, errW_some] <;> rfl) | (simp [*, errW_none, errW_some] <;> rfl), by repeat (first | (with_reducible first | exact HB.out | apply below_alloc | apply pw_below_drewN | apply below_drew1) | exact HB.out)⟩
      · replace c14 := Bool.eq_false_iff.mpr c14
        subst c14
        have H1 : ((fan_Shards.f kj3 a0 a1).bind fun bt113 => (if a0 < 0 then (proctorlaw02_FanShards.j1 kj3 a0 a1 bt113.1 bt113.2 true) else (if a1 < 1 then (proctorlaw02_FanShards.j1 kj3 a0 a1 bt113.1 bt113.2 true) else (proctorlaw02_FanShards.j1 kj3 a0 a1 bt113.1 bt113.2 (decide (a1 > 16)))))) = some r := by rw [if_neg (show ¬ (false = true) by decide)] at H; exact H
        clear H
        have H := H1
        clear H1
        replace H := Option.bind_eq_some_iff.mp H
        obtain ⟨⟨t113, t114⟩, A150, H⟩ := H
        replace H : (if a0 < 0 then (proctorlaw02_FanShards.j1 kj3 a0 a1 t113 t114 true) else (if a1 < 1 then (proctorlaw02_FanShards.j1 kj3 a0 a1 t113 t114 true) else (proctorlaw02_FanShards.j1 kj3 a0 a1 t113 t114 (decide (a1 > 16))))) = some r := H
        have A15 := Aside0.mk A150
        clear A150
        have HC16 := Aside0.mk H
        clear H
        go_upto_region 5 with (first | ((with_reducible refine gate_callee (f := 9) rfl ?_); refine goesL_ (some 39) rfl rfl Try.func9 (by kernel_rfl) rfl #[.int .i64 a0, .int .i64 a1] rfl (by (try simp only [List.map_toArray, List.map_cons, List.map_nil]); first | done | rfl | (simp only [List.length_drop, List.length_take]; rfl)) ?_; (with_reducible refine (fan_Shards.calls kj3 a0 a1 t113 t114 _ A15.out).mono ?_); rintro e w17 ⟨v115, rfl, ho0, hb⟩; refine ⟨_, rfl, ?_⟩; have n0_ := Aside0.mk (Kd.R_lower ho0 (below_size (by repeat (first | (with_reducible first | exact HB.out | apply below_alloc | apply pw_below_drewN | apply below_drew1) | exact HB.out)))); have n1_ := Aside0.mk (below_step (by repeat (first | (with_reducible first | exact HB.out | apply below_alloc | apply pw_below_drewN | apply below_drew1) | exact HB.out)) hb); clear HB; have HO116 := n0_; have HB := n1_; clear n0_ n1_; (try clear hb); (try clear hb2); (try clear hk); (try clear hi); (try clear ho0)))
        (try simp only [Act.put, List.setIfInBounds_toArray, List.set_cons_zero, List.set_cons_succ])
        go_cut [51] (fun v51 wc => ∃ (kq : Nat) (x51_15 : Bool), v51 = .bool x51_15 ∧ Aside0 (proctorlaw02_FanShards.j1 kq a0 a1 t113 t114 x51_15 = some r) ∧ Aside0 (kq ≤ kj3) ∧ Aside0 (Kd.R k27 27 wc w.heap.size (fun _ => True) v115 t113) ∧ Aside0 (Below w.heap.size w wc))
        case first =>
          have H := HC16.out
          clear HC16
          by_cases c18 : a0 < 0
          · rw [if_pos c18] at H
            have c18b0 : decide (a0 < 0) = true := decide_eq_true c18
            clear c18
            (first | rw [c18b0] | (simp only [i64_w, i32_w]; rw [c18b0]) | skip)
            have H' := Aside0.mk H
            clear H
            go_wp2
            go_meet
            case rel => exact ⟨_, (true), (by first | rfl | (simp; done) | (simp [*]; done)), H', ⟨by have := HJ3.out; first | omega | exact Nat.le_refl _⟩, ⟨by (with_reducible repeat (first | apply Kd.R_alloc | apply Kd.R_drewN | apply Kd.R_drew)); exact HO116.out⟩, ⟨by repeat (first | (with_reducible first | exact HB.out | apply below_alloc | apply pw_below_drewN | apply below_drew1) | exact HB.out)⟩⟩
          · rw [if_neg c18] at H
            have c18b0 : decide (a0 < 0) = false := decide_eq_false c18
            clear c18
            (first | rw [c18b0] | (simp only [i64_w, i32_w]; rw [c18b0]) | skip)
            by_cases c19 : a1 < 1
            · rw [if_pos c19] at H
              have c19b0 : decide (a1 < 1) = true := decide_eq_true c19
              clear c19
              have H' := Aside0.mk H
              clear H
              go_wp2
              go_meet
              case rel => exact ⟨_, (true), (by first | rfl | (simp; done) | (simp [*]; done)), H', ⟨by have := HJ3.out; first | omega | exact Nat.le_refl _⟩, ⟨by (with_reducible repeat (first | apply Kd.R_alloc | apply Kd.R_drewN | apply Kd.R_drew)); exact HO116.out⟩, ⟨by repeat (first | (with_reducible first | exact HB.out | apply below_alloc | apply pw_below_drewN | apply below_drew1) | exact HB.out)⟩⟩
            · rw [if_neg c19] at H
              have c19b0 : decide (a1 < 1) = false := decide_eq_false c19
              clear c19
              have H' := Aside0.mk H
              clear H
              go_wp2
              go_meet
              case rel => exact ⟨_, (decide (a1 > 16)), (by first | rfl | (simp; done) | (simp [*]; done)), H', ⟨by have := HJ3.out; first | omega | exact Nat.le_refl _⟩, ⟨by (with_reducible repeat (first | apply Kd.R_alloc | apply Kd.R_drewN | apply Kd.R_drew)); exact HO116.out⟩, ⟨by repeat (first | (with_reducible first | exact HB.out | apply below_alloc | apply pw_below_drewN | apply below_drew1) | exact HB.out)⟩⟩
        case rest =>
          clear HC16
          try clear c1
          try clear p1
          try clear q1
          try clear hx1
          try clear qi1
          try clear p2
          try clear c3
          try clear c6
          try clear c6b0
          try clear c6b1
          try clear c7
          try clear c7b0
          try clear c7b1
          try clear c8
          try clear c8b0
          try clear c8b1
          try clear c9
          try clear c9b0
          try clear c9b1
          try clear c10
          try clear c10b0
          try clear c10b1
          try clear p11
          try clear q11
          try clear hx11
          try clear qi11
          try clear c14
          try clear c18
          try clear c18b0
          try clear c19
          try clear c19b0
          try clear hx111_0
          try clear hx111_1
          try clear hx112_0
          try clear hx112_1
          try clear p1
          try clear p11
          try clear p111
          try clear p112
          try clear p2
          try clear q1
          try clear q11
          try clear q111
          try clear q112
          obtain ⟨kq, x51_15, rfl, HA, HJ15, HO_5, HB⟩ := hcut
          cases kq with
          | zero => exact absurd HA.out (by simp [proctorlaw02_FanShards.j1])
          | succ kj15 =>
            have H := HA.out
            clear HA
            simp only [proctorlaw02_FanShards.j1] at H
            by_cases c20 : x51_15 = true
            · subst c20
              have H1 : (if t114 = 23 then (some ((t113.length : Int) == 0)) else (some false)) = some r := by rw [if_pos rfl] at H; exact H
              clear H
              have H := H1
              clear H1
              by_cases c21 : t114 = 23
              · rw [if_pos c21] at H
                have c21b0 : (t114 == 23) = true := beq_iff_eq.mpr c21
                have c21b1 : (t114 != 23) = false := bne_eq_false_iff_eq.mpr c21
                clear c21
                obtain rfl := Option.some.inj H
                obtain ⟨Ao22, co22, eo22⟩ := Kd.R_slice HO_5.out
                subst eo22
                go_wp2
                go_ret
                exact ⟨by first | rfl | (simp [errW_none, errW_some] <;> rfl) | (simp [*, errW_none, errW_some] <;> rfl), by repeat (first | (with_reducible first | exact HB.out | apply below_alloc | apply pw_below_drewN | apply below_drew1) | exact HB.out)⟩
              · rw [if_neg c21] at H
                have c21b0 : (t114 == 23) = false := beq_eq_false_iff_ne.mpr c21
                have c21b1 : (t114 != 23) = true := bne_iff_ne.mpr c21
                obtain rfl := Option.some.inj H
                go_wp2
                go_ret
                exact ⟨by first | rfl | (simp [errW_none, errW_some] <;> rfl) | (simp [*, errW_none, errW_some] <;> rfl), by repeat (first | (with_reducible first | exact HB.out | apply below_alloc | apply pw_below_drewN | apply below_drew1) | exact HB.out)⟩
            · replace c20 := Bool.eq_false_iff.mpr c20
              subst c20
              have H1 : (if t114 = 0 then (proctorlaw02_FanShards.j2 kj15 a0 a1 t113 ((t113.length : Int) != a1)) else (proctorlaw02_FanShards.j2 kj15 a0 a1 t113 true)) = some r := by rw [if_neg (show ¬ (false = true) by decide)] at H; exact H
              clear H
              have H := H1
              clear H1
              have HC23 := Aside0.mk H
              clear H
              go_upto_region 7 with (fail)
              go_cut [66] (fun v66 wc => ∃ (kq : Nat) (x66_22 : Bool), v66 = .bool x66_22 ∧ Aside0 (proctorlaw02_FanShards.j2 kq a0 a1 t113 x66_22 = some r) ∧ Aside0 (kq ≤ kj15) ∧ Aside0 (Kd.R k27 27 wc w.heap.size (fun _ => True) v115 t113) ∧ Aside0 (Below w.heap.size w wc))
              case first =>
                have H := HC23.out
                clear HC23
                by_cases c24 : t114 = 0
                · rw [if_pos c24] at H
                  have c24b0 : (t114 == 0) = true := beq_iff_eq.mpr c24
                  have c24b1 : (t114 != 0) = false := bne_eq_false_iff_eq.mpr c24
                  clear c24
                  (first | rw [c24b0] | (simp only [i64_w, i32_w]; rw [c24b0]) | skip)
                  have H' := Aside0.mk H
                  clear H
                  obtain ⟨Ao25, co25, eo25⟩ := Kd.R_slice HO_5.out
                  subst eo25
                  go_wp2
                  go_meet
                  case rel => exact ⟨_, (((t113.length : Int) != a1)), (by first | rfl | (simp; done) | (simp [*]; done)), H', ⟨by have := HJ3.out; have := HJ15.out; first | omega | exact Nat.le_refl _⟩, ⟨by (with_reducible repeat (first | apply Kd.R_alloc | apply Kd.R_drewN | apply Kd.R_drew)); exact HO_5.out⟩, ⟨by repeat (first | (with_reducible first | exact HB.out | apply below_alloc | apply pw_below_drewN | apply below_drew1) | exact HB.out)⟩⟩
                · rw [if_neg c24] at H
                  have c24b0 : (t114 == 0) = false := beq_eq_false_iff_ne.mpr c24
                  have c24b1 : (t114 != 0) = true := bne_iff_ne.mpr c24
                  (first | rw [c24b0] | (simp only [i64_w, i32_w]; rw [c24b0]) | skip)
                  have H' := Aside0.mk H
                  clear H
                  go_wp2
                  go_meet
                  case rel => exact ⟨_, (true), (by first | rfl | (simp; done) | (simp [*]; done)), H', ⟨by have := HJ3.out; have := HJ15.out; first | omega | exact Nat.le_refl _⟩, ⟨by (with_reducible repeat (first | apply Kd.R_alloc | apply Kd.R_drewN | apply Kd.R_drew)); exact HO_5.out⟩, ⟨by repeat (first | (with_reducible first | exact HB.out | apply below_alloc | apply pw_below_drewN | apply below_drew1) | exact HB.out)⟩⟩
              case rest =>
                clear HC23
                try clear c1
                try clear p1
                try clear q1
                try clear hx1
                try clear qi1
                try clear c2
                try clear p2
                try clear c3
                try clear c6
                try clear c6b0
                try clear c6b1
                try clear c7
                try clear c7b0
                try clear c7b1
                try clear c8
                try clear c8b0
                try clear c8b1
                try clear c9
                try clear c9b0
                try clear c9b1
                try clear c10
                try clear c10b0
                try clear c10b1
                try clear p11
                try clear q11
                try clear hx11
                try clear qi11
                try clear c14
                try clear c18
                try clear c18b0
                try clear c19
                try clear c19b0
                try clear c20
                try clear c21
                try clear c21b0
                try clear c21b1
                try clear c24
                try clear c24b0
                try clear c24b1
                try clear hx111_0
                try clear hx111_1
                try clear hx112_0
                try clear hx112_1
                try clear p1
                try clear p11
                try clear p111
                try clear p112
                try clear p2
                try clear q1
                try clear q11
                try clear q111
                try clear q112
                obtain ⟨kq, x66_22, rfl, HA, HJ22, HO_5, HB⟩ := hcut
                cases kq with
                | zero => exact absurd HA.out (by simp [proctorlaw02_FanShards.j2])
                | succ kj22 =>
                  have H := HA.out
                  clear HA
                  simp only [proctorlaw02_FanShards.j2] at H
                  by_cases c26 : x66_22 = true
                  · subst c26
                    have H1 : (some false) = some r := by rw [if_pos rfl] at H; exact H
                    clear H
                    have H := H1
                    clear H1
                    obtain rfl := Option.some.inj H
                    go_wp2
                    go_ret
                    exact ⟨by first | rfl | (simp [errW_none, errW_some] <;> rfl) | (simp [*, errW_none, errW_some] <;> rfl), by repeat (first | (with_reducible first | exact HB.out | apply below_alloc | apply pw_below_drewN | apply below_drew1) | exact HB.out)⟩
                  · replace c26 := Bool.eq_false_iff.mpr c26
                    subst c26
                    have H1 : (proctorlaw02_FanShards.l0 kj22 a0 a1 0 t113 (t113.length : Int) 0) = some r := by rw [if_neg (show ¬ (false = true) by decide)] at H; exact H
                    clear H
                    have H := H1
                    clear H1
                    have H' := Aside0.mk H
                    clear H
                    obtain ⟨Ao27, co27, eo27⟩ := Kd.R_slice HO_5.out
                    subst eo27
                    go_wp2
                    go_loopg [7, 69] kj22 (fun kq v7 v69 w' => ∃ (x7_4 : Int) (x69_4 : Int), v7 = .int .i64 x7_4 ∧ v69 = .int .i64 x69_4 ∧ Aside0 (proctorlaw02_FanShards.l0 kq a0 a1 x7_4 t113 (t113.length : Int) x69_4 = some r) ∧ Aside0 (kq ≤ kj22) ∧ Aside0 (Kd.R k27 27 w' w.heap.size (fun _ => True) (.slice Ao27 t113.length co27) t113) ∧ Aside0 (Below w.heap.size w w'))
                    case atStart => exact ⟨(0), (0), (by first | rfl | (simp; done) | (simp [*]; done)), (by first | rfl | (simp; done) | (simp [*]; done)), H', ⟨Nat.le_refl _⟩, ⟨by (with_reducible repeat (first | apply Kd.R_alloc | apply Kd.R_drewN | apply Kd.R_drew)); exact HO_5.out⟩, ⟨by repeat (first | (with_reducible first | exact HB.out | apply below_alloc | apply pw_below_drewN | apply below_drew1) | exact HB.out)⟩⟩
                    case round =>
                      clear H'
                      try clear c1
                      try clear p1
                      try clear q1
                      try clear hx1
                      try clear qi1
                      try clear c2
                      try clear p2
                      try clear c3
                      try clear c6
                      try clear c6b0
                      try clear c6b1
                      try clear c7
                      try clear c7b0
                      try clear c7b1
                      try clear c8
                      try clear c8b0
                      try clear c8b1
                      try clear c9
                      try clear c9b0
                      try clear c9b1
                      try clear c10
                      try clear c10b0
                      try clear c10b1
                      try clear p11
                      try clear q11
                      try clear hx11
                      try clear qi11
                      try clear c14
                      try clear c18
                      try clear c18b0
                      try clear c19
                      try clear c19b0
                      try clear c20
                      try clear c21
                      try clear c21b0
                      try clear c21b1
                      try clear c24
                      try clear c24b0
                      try clear c24b1
                      try clear c26
                      try clear hx111_0
                      try clear hx111_1
                      try clear hx112_0
                      try clear hx112_1
                      try clear p1
                      try clear p11
                      try clear p111
                      try clear p112
                      try clear p2
                      try clear q1
                      try clear q11
                      try clear q111
                      try clear q112
                      obtain ⟨x7_4, x69_4, rfl, rfl, HA, HK4, HO_67, HB⟩ := hrel
                      cases gk with
                      | zero => exact absurd HA.out (by simp [proctorlaw02_FanShards.l0])
                      | succ k4 =>
                        have H := HA.out
                        clear HA
                        simp only [proctorlaw02_FanShards.l0] at H
                        by_cases c28 : x69_4 < (t113.length : Int)
                        · rw [if_pos c28] at H
                          have c28b0 : decide (x69_4 < (t113.length : Int)) = true := decide_eq_true c28
                          clear c28
                          by_cases c29 : 0 ≤ x69_4
                          · rw [if_pos c29] at H
                            have c29b0 : decide (0 ≤ x69_4) = true := decide_eq_true c29
                            clear c29
                            by_cases c30 : x69_4 < (t113.length : Int)
                            · rw [if_pos c30] at H
                              have c30b0 : decide (x69_4 < (t113.length : Int)) = true := decide_eq_true c30
                              clear c30
                              by_cases c31 : a1 = 0
                              · rw [if_pos c31] at H
                                exact absurd H (by simp)
                              · rw [if_neg c31] at H
                                have c31b0 : (a1 == 0) = false := beq_eq_false_iff_ne.mpr c31
                                have c31b1 : (a1 != 0) = true := bne_iff_ne.mpr c31
                                by_cases c32 : x69_4 < (Int.tmod a0 a1)
                                · rw [if_pos c32] at H
                                  have c32b0 : decide (x69_4 < (Int.tmod a0 a1)) = true := decide_eq_true c32
                                  clear c32
                                  by_cases c33 : ((rd_T27 t113 x69_4).f0) = x7_4
                                  · rw [if_pos c33] at H
                                    have c33b0 : (((rd_T27 t113 x69_4).f0) == x7_4) = true := beq_iff_eq.mpr c33
                                    have c33b1 : (((rd_T27 t113 x69_4).f0) != x7_4) = false := bne_eq_false_iff_eq.mpr c33
                                    clear c33
                                    by_cases c34 : (wrap64 (((rd_T27 t113 x69_4).f1) - ((rd_T27 t113 x69_4).f0))) = (wrap64 ((wrap64 (Int.tdiv a0 a1)) + 1))
                                    · rw [if_pos c34] at H
                                      have c34b0 : ((wrap64 (((rd_T27 t113 x69_4).f1) - ((rd_T27 t113 x69_4).f0))) == (wrap64 ((wrap64 (Int.tdiv a0 a1)) + 1))) = true := beq_iff_eq.mpr c34
                                      have c34b1 : ((wrap64 (((rd_T27 t113 x69_4).f1) - ((rd_T27 t113 x69_4).f0))) != (wrap64 ((wrap64 (Int.tdiv a0 a1)) + 1))) = false := bne_eq_false_iff_eq.mpr c34
                                      clear c34
                                      have H' := Aside0.mk H
                                      clear H
                                      have p117 : 0 ≤ (x69_4 : Int) := of_decide_eq_true (by first | (with_reducible assumption) | assumption)
                                      have q117 : x69_4 < (t113.length : Int) := of_decide_eq_true (by first | (with_reducible assumption) | assumption)
                                      obtain ⟨ad117, e117, hx117_0, hx117_1⟩ := at_T27 (Kd.R_reads' HO_67.out).2.2 x69_4 p117 q117
                                      cases e117
                                      replace p117 := eq_true p117
                                      replace q117 := eq_true q117
                                      go_wp2_with (first | ((with_reducible refine gate_dst (N := 9) rfl ?_); (try (refine gate_guard (by rfl) ?_; dsimp only)); refine box_event ?hg (N := 9) ?hd (cs := #[.int .i64 0, .int .i64 0]) (t := 27) ?hr ?_; (case hd => rfl); (case hg => rfl); (case hr => first | (go_simp; done) | (go_simp; rfl)); intro gb118 hg w35 hbox hb; have n0_ := Aside0.mk (Kd.R_below (Kd.R_elderB (by (with_reducible repeat (first | apply Kd.R_alloc | apply Kd.R_drewN | apply Kd.R_drew)); exact HO_67.out) gb118 (Nat.le_of_eq hg.symm)) hb); have n1_ := Aside0.mk (below_step (by repeat (first | (with_reducible first | exact HB.out | apply below_alloc | apply pw_below_drewN | apply below_drew1) | exact HB.out)) hb); have n2_ := Aside0.mk (hbox); have n3_ := Aside0.mk ((by rw [hg]; exact (below_size (by repeat (first | (with_reducible first | exact HB.out | apply below_alloc | apply pw_below_drewN | apply below_drew1) | exact HB.out))) : w.heap.size ≤ gb118)); have n4_ := Aside0.mk ((by rw [hg]; exact (below_size (by repeat (first | (with_reducible first | exact HB.out | apply below_alloc | apply pw_below_drewN | apply below_drew1) | exact HB.out))) : w.heap.size ≤ gb118)); clear HO_67; clear HB; have HO_67 := n0_; have HB := n1_; have BK118 := n2_; have GW118 := n3_; have GE118 := n4_; clear n0_ n1_ n2_ n3_ n4_; clear hb hbox hg; have hcz36_0 : w35.cell? ⟨gb118, 0, none⟩ = some (.int .i64 0) := (blk_cell BK118.out 0).trans rfl; have hcz36_1 : w35.cell? ⟨gb118, 1, none⟩ = some (.int .i64 0) := (blk_cell BK118.out 1).trans rfl; have hfz36_0 := blk_frozen BK118.out 0; have hfz36_1 := blk_frozen BK118.out 1))
                                      go_roundg k4
                                      case measure => have := HJ3.out; have := HJ15.out; have := HJ22.out; have := HK4.out; omega
                                      case rel => exact ⟨((rd_T27 t113 x69_4).f1), (wrap64 (x69_4 + 1)), (by first | rfl | (simp; done) | (simp [*]; done)), (by first | rfl | (simp; done) | (simp [*]; done)), H', ⟨by have := HJ3.out; have := HJ15.out; have := HJ22.out; have := HK4.out; omega⟩, ⟨by (with_reducible repeat (first | apply Kd.R_alloc | apply Kd.R_drewN | apply Kd.R_drew)); exact Kd.R_mono (Kd.R_far (p := ⟨gb118, 1, none⟩) (Kd.R_far (p := ⟨gb118, 0, none⟩) (Kd.R_mono HO_67.out (fun k_ hk => (⟨hk, hk.2⟩ : _ ∧ k_ ≠ gb118))) (fun _ hk => hk.2) (.int .i64 ((rd_T27 t113 x69_4).f0))) (fun _ hk => hk.2) (.int .i64 ((rd_T27 t113 x69_4).f1))) (fun _ hk => trivial)⟩, ⟨by repeat (first | (with_reducible first | exact HB.out | apply below_alloc | apply pw_below_drewN | apply below_drew1 | refine below_set ?_ GE118.out) | exact HB.out)⟩⟩
                                    · rw [if_neg c34] at H
                                      have c34b0 : ((wrap64 (((rd_T27 t113 x69_4).f1) - ((rd_T27 t113 x69_4).f0))) == (wrap64 ((wrap64 (Int.tdiv a0 a1)) + 1))) = false := beq_eq_false_iff_ne.mpr c34
                                      have c34b1 : ((wrap64 (((rd_T27 t113 x69_4).f1) - ((rd_T27 t113 x69_4).f0))) != (wrap64 ((wrap64 (Int.tdiv a0 a1)) + 1))) = true := bne_iff_ne.mpr c34
                                      obtain rfl := Option.some.inj H
                                      have p117 : 0 ≤ (x69_4 : Int) := of_decide_eq_true (by first | (with_reducible assumption) | assumption)
                                      have q117 : x69_4 < (t113.length : Int) := of_decide_eq_true (by first | (with_reducible assumption) | assumption)
                                      obtain ⟨ad117, e117, hx117_0, hx117_1⟩ := at_T27 (Kd.R_reads' HO_67.out).2.2 x69_4 p117 q117
                                      cases e117
                                      replace p117 := eq_true p117
                                      replace q117 := eq_true q117
                                      go_wp2_with (first | ((with_reducible refine gate_dst (N := 9) rfl ?_); (try (refine gate_guard (by rfl) ?_; dsimp only)); refine box_event ?hg (N := 9) ?hd (cs := #[.int .i64 0, .int .i64 0]) (t := 27) ?hr ?_; (case hd => rfl); (case hg => rfl); (case hr => first | (go_simp; done) | (go_simp; rfl)); intro gb118 hg w37 hbox hb; have n0_ := Aside0.mk (Kd.R_below (Kd.R_elderB (by (with_reducible repeat (first | apply Kd.R_alloc | apply Kd.R_drewN | apply Kd.R_drew)); exact HO_67.out) gb118 (Nat.le_of_eq hg.symm)) hb); have n1_ := Aside0.mk (below_step (by repeat (first | (with_reducible first | exact HB.out | apply below_alloc | apply pw_below_drewN | apply below_drew1) | exact HB.out)) hb); have n2_ := Aside0.mk (hbox); have n3_ := Aside0.mk ((by rw [hg]; exact (below_size (by repeat (first | (with_reducible first | exact HB.out | apply below_alloc | apply pw_below_drewN | apply below_drew1) | exact HB.out))) : w.heap.size ≤ gb118)); have n4_ := Aside0.mk ((by rw [hg]; exact (below_size (by repeat (first | (with_reducible first | exact HB.out | apply below_alloc | apply pw_below_drewN | apply below_drew1) | exact HB.out))) : w.heap.size ≤ gb118)); clear HO_67; clear HB; have HO_67 := n0_; have HB := n1_; have BK118 := n2_; have GW118 := n3_; have GE118 := n4_; clear n0_ n1_ n2_ n3_ n4_; clear hb hbox hg; have hcz38_0 : w37.cell? ⟨gb118, 0, none⟩ = some (.int .i64 0) := (blk_cell BK118.out 0).trans rfl; have hcz38_1 : w37.cell? ⟨gb118, 1, none⟩ = some (.int .i64 0) := (blk_cell BK118.out 1).trans rfl; have hfz38_0 := blk_frozen BK118.out 0; have hfz38_1 := blk_frozen BK118.out 1))
                                      go_ret
                                      exact ⟨by first | rfl | (simp [errW_none, errW_some] <;> rfl) | (simp [*, errW_none, errW_some] <;> rfl), by repeat (first | (with_reducible first | exact HB.out | apply below_alloc | apply pw_below_drewN | apply below_drew1 | refine below_set ?_ GE118.out) | exact HB.out)⟩
                                  · rw [if_neg c33] at H
                                    have c33b0 : (((rd_T27 t113 x69_4).f0) == x7_4) = false := beq_eq_false_iff_ne.mpr c33
                                    have c33b1 : (((rd_T27 t113 x69_4).f0) != x7_4) = true := bne_iff_ne.mpr c33
                                    obtain rfl := Option.some.inj H
                                    have p117 : 0 ≤ (x69_4 : Int) := of_decide_eq_true (by first | (with_reducible assumption) | assumption)
                                    have q117 : x69_4 < (t113.length : Int) := of_decide_eq_true (by first | (with_reducible assumption) | assumption)
                                    obtain ⟨ad117, e117, hx117_0, hx117_1⟩ := at_T27 (Kd.R_reads' HO_67.out).2.2 x69_4 p117 q117
                                    cases e117
                                    replace p117 := eq_true p117
                                    replace q117 := eq_true q117
                                    go_wp2_with (first | ((with_reducible refine gate_dst (N := 9) rfl ?_); (try (refine gate_guard (by rfl) ?_; dsimp only)); refine box_event ?hg (N := 9) ?hd (cs := #[.int .i64 0, .int .i64 0]) (t := 27) ?hr ?_; (case hd => rfl); (case hg => rfl); (case hr => first | (go_simp; done) | (go_simp; rfl)); intro gb118 hg w39 hbox hb; have n0_ := Aside0.mk (Kd.R_below (Kd.R_elderB (by (with_reducible repeat (first | apply Kd.R_alloc | apply Kd.R_drewN | apply Kd.R_drew)); exact HO_67.out) gb118 (Nat.le_of_eq hg.symm)) hb); have n1_ := Aside0.mk (below_step (by repeat (first | (with_reducible first | exact HB.out | apply below_alloc | apply pw_below_drewN | apply below_drew1) | exact HB.out)) hb); have n2_ := Aside0.mk (hbox); have n3_ := Aside0.mk ((by rw [hg]; exact (below_size (by repeat (first | (with_reducible first | exact HB.out | apply below_alloc | apply pw_below_drewN | apply below_drew1) | exact HB.out))) : w.heap.size ≤ gb118)); have n4_ := Aside0.mk ((by rw [hg]; exact (below_size (by repeat (first | (with_reducible first | exact HB.out | apply below_alloc | apply pw_below_drewN | apply below_drew1) | exact HB.out))) : w.heap.size ≤ gb118)); clear HO_67; clear HB; have HO_67 := n0_; have HB := n1_; have BK118 := n2_; have GW118 := n3_; have GE118 := n4_; clear n0_ n1_ n2_ n3_ n4_; clear hb hbox hg; have hcz40_0 : w39.cell? ⟨gb118, 0, none⟩ = some (.int .i64 0) := (blk_cell BK118.out 0).trans rfl; have hcz40_1 : w39.cell? ⟨gb118, 1, none⟩ = some (.int .i64 0) := (blk_cell BK118.out 1).trans rfl; have hfz40_0 := blk_frozen BK118.out 0; have hfz40_1 := blk_frozen BK118.out 1))
                                    go_ret
                                    exact ⟨by first | rfl | (simp [errW_none, errW_some] <;> rfl) | (simp [*, errW_none, errW_some] <;> rfl), by repeat (first | (with_reducible first | exact HB.out | apply below_alloc | apply pw_below_drewN | apply below_drew1 | refine below_set ?_ GE118.out) | exact HB.out)⟩
                                · rw [if_neg c32] at H
                                  have c32b0 : decide (x69_4 < (Int.tmod a0 a1)) = false := decide_eq_false c32
                                  clear c32
                                  by_cases c41 : ((rd_T27 t113 x69_4).f0) = x7_4
                                  · rw [if_pos c41] at H
                                    have c41b0 : (((rd_T27 t113 x69_4).f0) == x7_4) = true := beq_iff_eq.mpr c41
                                    have c41b1 : (((rd_T27 t113 x69_4).f0) != x7_4) = false := bne_eq_false_iff_eq.mpr c41
                                    clear c41
                                    by_cases c42 : (wrap64 (((rd_T27 t113 x69_4).f1) - ((rd_T27 t113 x69_4).f0))) = (wrap64 (Int.tdiv a0 a1))
                                    · rw [if_pos c42] at H
                                      have c42b0 : ((wrap64 (((rd_T27 t113 x69_4).f1) - ((rd_T27 t113 x69_4).f0))) == (wrap64 (Int.tdiv a0 a1))) = true := beq_iff_eq.mpr c42
                                      have c42b1 : ((wrap64 (((rd_T27 t113 x69_4).f1) - ((rd_T27 t113 x69_4).f0))) != (wrap64 (Int.tdiv a0 a1))) = false := bne_eq_false_iff_eq.mpr c42
                                      clear c42
                                      have H' := Aside0.mk H
                                      clear H
                                      have p117 : 0 ≤ (x69_4 : Int) := of_decide_eq_true (by first | (with_reducible assumption) | assumption)
                                      have q117 : x69_4 < (t113.length : Int) := of_decide_eq_true (by first | (with_reducible assumption) | assumption)
                                      obtain ⟨ad117, e117, hx117_0, hx117_1⟩ := at_T27 (Kd.R_reads' HO_67.out).2.2 x69_4 p117 q117
                                      cases e117
                                      replace p117 := eq_true p117
                                      replace q117 := eq_true q117
                                      go_wp2_with (first | ((with_reducible refine gate_dst (N := 9) rfl ?_); (try (refine gate_guard (by rfl) ?_; dsimp only)); refine box_event ?hg (N := 9) ?hd (cs := #[.int .i64 0, .int .i64 0]) (t := 27) ?hr ?_; (case hd => rfl); (case hg => rfl); (case hr => first | (go_simp; done) | (go_simp; rfl)); intro gb118 hg w43 hbox hb; have n0_ := Aside0.mk (Kd.R_below (Kd.R_elderB (by (with_reducible repeat (first | apply Kd.R_alloc | apply Kd.R_drewN | apply Kd.R_drew)); exact HO_67.out) gb118 (Nat.le_of_eq hg.symm)) hb); have n1_ := Aside0.mk (below_step (by repeat (first | (with_reducible first | exact HB.out | apply below_alloc | apply pw_below_drewN | apply below_drew1) | exact HB.out)) hb); have n2_ := Aside0.mk (hbox); have n3_ := Aside0.mk ((by rw [hg]; exact (below_size (by repeat (first | (with_reducible first | exact HB.out | apply below_alloc | apply pw_below_drewN | apply below_drew1) | exact HB.out))) : w.heap.size ≤ gb118)); have n4_ := Aside0.mk ((by rw [hg]; exact (below_size (by repeat (first | (with_reducible first | exact HB.out | apply below_alloc | apply pw_below_drewN | apply below_drew1) | exact HB.out))) : w.heap.size ≤ gb118)); clear HO_67; clear HB; have HO_67 := n0_; have HB := n1_; have BK118 := n2_; have GW118 := n3_; have GE118 := n4_; clear n0_ n1_ n2_ n3_ n4_; clear hb hbox hg; have hcz44_0 : w43.cell? ⟨gb118, 0, none⟩ = some (.int .i64 0) := (blk_cell BK118.out 0).trans rfl; have hcz44_1 : w43.cell? ⟨gb118, 1, none⟩ = some (.int .i64 0) := (blk_cell BK118.out 1).trans rfl; have hfz44_0 := blk_frozen BK118.out 0; have hfz44_1 := blk_frozen BK118.out 1))
                                      go_roundg k4
                                      case measure => have := HJ3.out; have := HJ15.out; have := HJ22.out; have := HK4.out; omega
                                      case rel => exact ⟨((rd_T27 t113 x69_4).f1), (wrap64 (x69_4 + 1)), (by first | rfl | (simp; done) | (simp [*]; done)), (by first | rfl | (simp; done) | (simp [*]; done)), H', ⟨by have := HJ3.out; have := HJ15.out; have := HJ22.out; have := HK4.out; omega⟩, ⟨by (with_reducible repeat (first | apply Kd.R_alloc | apply Kd.R_drewN | apply Kd.R_drew)); exact Kd.R_mono (Kd.R_far (p := ⟨gb118, 1, none⟩) (Kd.R_far (p := ⟨gb118, 0, none⟩) (Kd.R_mono HO_67.out (fun k_ hk => (⟨hk, hk.2⟩ : _ ∧ k_ ≠ gb118))) (fun _ hk => hk.2) (.int .i64 ((rd_T27 t113 x69_4).f0))) (fun _ hk => hk.2) (.int .i64 ((rd_T27 t113 x69_4).f1))) (fun _ hk => trivial)⟩, ⟨by repeat (first | (with_reducible first | exact HB.out | apply below_alloc | apply pw_below_drewN | apply below_drew1 | refine below_set ?_ GE118.out) | exact HB.out)⟩⟩
                                    · rw [if_neg c42] at H
                                      have c42b0 : ((wrap64 (((rd_T27 t113 x69_4).f1) - ((rd_T27 t113 x69_4).f0))) == (wrap64 (Int.tdiv a0 a1))) = false := beq_eq_false_iff_ne.mpr c42
                                      have c42b1 : ((wrap64 (((rd_T27 t113 x69_4).f1) - ((rd_T27 t113 x69_4).f0))) != (wrap64 (Int.tdiv a0 a1))) = true := bne_iff_ne.mpr c42
                                      obtain rfl := Option.some.inj H
                                      have p117 : 0 ≤ (x69_4 : Int) := of_decide_eq_true (by first | (with_reducible assumption) | assumption)
                                      have q117 : x69_4 < (t113.length : Int) := of_decide_eq_true (by first | (with_reducible assumption) | assumption)
                                      obtain ⟨ad117, e117, hx117_0, hx117_1⟩ := at_T27 (Kd.R_reads' HO_67.out).2.2 x69_4 p117 q117
                                      cases e117
                                      replace p117 := eq_true p117
                                      replace q117 := eq_true q117
                                      go_wp2_with (first | ((with_reducible refine gate_dst (N := 9) rfl ?_); (try (refine gate_guard (by rfl) ?_; dsimp only)); refine box_event ?hg (N := 9) ?hd (cs := #[.int .i64 0, .int .i64 0]) (t := 27) ?hr ?_; (case hd => rfl); (case hg => rfl); (case hr => first | (go_simp; done) | (go_simp; rfl)); intro gb118 hg w45 hbox hb; have n0_ := Aside0.mk (Kd.R_below (Kd.R_elderB (by (with_reducible repeat (first | apply Kd.R_alloc | apply Kd.R_drewN | apply Kd.R_drew)); exact HO_67.out) gb118 (Nat.le_of_eq hg.symm)) hb); have n1_ := Aside0.mk (below_step (by repeat (first | (with_reducible first | exact HB.out | apply below_alloc | apply pw_below_drewN | apply below_drew1) | exact HB.out)) hb); have n2_ := Aside0.mk (hbox); have n3_ := Aside0.mk ((by rw [hg]; exact (below_size (by repeat (first | (with_reducible first | exact HB.out | apply below_alloc | apply pw_below_drewN | apply below_drew1) | exact HB.out))) : w.heap.size ≤ gb118)); have n4_ := Aside0.mk ((by rw [hg]; exact (below_size (by repeat (first | (with_reducible first | exact HB.out | apply below_alloc | apply pw_below_drewN | apply below_drew1) | exact HB.out))) : w.heap.size ≤ gb118)); clear HO_67; clear HB; have HO_67 := n0_; have HB := n1_; have BK118 := n2_; have GW118 := n3_; have GE118 := n4_; clear n0_ n1_ n2_ n3_ n4_; clear hb hbox hg; have hcz46_0 : w45.cell? ⟨gb118, 0, none⟩ = some (.int .i64 0) := (blk_cell BK118.out 0).trans rfl; have hcz46_1 : w45.cell? ⟨gb118, 1, none⟩ = some (.int .i64 0) := (blk_cell BK118.out 1).trans rfl; have hfz46_0 := blk_frozen BK118.out 0; have hfz46_1 := blk_frozen BK118.out 1))
                                      go_ret
                                      exact ⟨by first | rfl | (simp [errW_none, errW_some] <;> rfl) | (simp [*, errW_none, errW_some] <;> rfl), by repeat (first | (with_reducible first | exact HB.out | apply below_alloc | apply pw_below_drewN | apply below_drew1 | refine below_set ?_ GE118.out) | exact HB.out)⟩
                                  · rw [if_neg c41] at H
                                    have c41b0 : (((rd_T27 t113 x69_4).f0) == x7_4) = false := beq_eq_false_iff_ne.mpr c41
                                    have c41b1 : (((rd_T27 t113 x69_4).f0) != x7_4) = true := bne_iff_ne.mpr c41
                                    obtain rfl := Option.some.inj H
                                    have p117 : 0 ≤ (x69_4 : Int) := of_decide_eq_true (by first | (with_reducible assumption) | assumption)
                                    have q117 : x69_4 < (t113.length : Int) := of_decide_eq_true (by first | (with_reducible assumption) | assumption)
                                    obtain ⟨ad117, e117, hx117_0, hx117_1⟩ := at_T27 (Kd.R_reads' HO_67.out).2.2 x69_4 p117 q117
                                    cases e117
                                    replace p117 := eq_true p117
                                    replace q117 := eq_true q117
                                    go_wp2_with (first | ((with_reducible refine gate_dst (N := 9) rfl ?_); (try (refine gate_guard (by rfl) ?_; dsimp only)); refine box_event ?hg (N := 9) ?hd (cs := #[.int .i64 0, .int .i64 0]) (t := 27) ?hr ?_; (case hd => rfl); (case hg => rfl); (case hr => first | (go_simp; done) | (go_simp; rfl)); intro gb118 hg w47 hbox hb; have n0_ := Aside0.mk (Kd.R_below (Kd.R_elderB (by (with_reducible repeat (first | apply Kd.R_alloc | apply Kd.R_drewN | apply Kd.R_drew)); exact HO_67.out) gb118 (Nat.le_of_eq hg.symm)) hb); have n1_ := Aside0.mk (below_step (by repeat (first | (with_reducible first | exact HB.out | apply below_alloc | apply pw_below_drewN | apply below_drew1) | exact HB.out)) hb); have n2_ := Aside0.mk (hbox); have n3_ := Aside0.mk ((by rw [hg]; exact (below_size (by repeat (first | (with_reducible first | exact HB.out | apply below_alloc | apply pw_below_drewN | apply below_drew1) | exact HB.out))) : w.heap.size ≤ gb118)); have n4_ := Aside0.mk ((by rw [hg]; exact (below_size (by repeat (first | (with_reducible first | exact HB.out | apply below_alloc | apply pw_below_drewN | apply below_drew1) | exact HB.out))) : w.heap.size ≤ gb118)); clear HO_67; clear HB; have HO_67 := n0_; have HB := n1_; have BK118 := n2_; have GW118 := n3_; have GE118 := n4_; clear n0_ n1_ n2_ n3_ n4_; clear hb hbox hg; have hcz48_0 : w47.cell? ⟨gb118, 0, none⟩ = some (.int .i64 0) := (blk_cell BK118.out 0).trans rfl; have hcz48_1 : w47.cell? ⟨gb118, 1, none⟩ = some (.int .i64 0) := (blk_cell BK118.out 1).trans rfl; have hfz48_0 := blk_frozen BK118.out 0; have hfz48_1 := blk_frozen BK118.out 1))
                                    go_ret
                                    exact ⟨by first | rfl | (simp [errW_none, errW_some] <;> rfl) | (simp [*, errW_none, errW_some] <;> rfl), by repeat (first | (with_reducible first | exact HB.out | apply below_alloc | apply pw_below_drewN | apply below_drew1 | refine below_set ?_ GE118.out) | exact HB.out)⟩
                            · rw [if_neg c30] at H
                              exact absurd H (by simp)
                          · rw [if_neg c29] at H
                            exact absurd H (by simp)
                        · rw [if_neg c28] at H
                          have c28b0 : decide (x69_4 < (t113.length : Int)) = false := decide_eq_false c28
                          clear c28
                          obtain rfl := Option.some.inj H
                          go_wp2
                          go_ret
                          exact ⟨by first | rfl | (simp [errW_none, errW_some] <;> rfl) | (simp [*, errW_none, errW_some] <;> rfl), by repeat (first | (with_reducible first | exact HB.out | apply below_alloc | apply pw_below_drewN | apply below_drew1) | exact HB.out)⟩

/-- THE ONE PURE STATEMENT of proctorlaw02_FanShards: yours. -/
def proctorlaw02_FanShards.Pure : Prop := ∀ (a0 : Int) (a1 : Int), (Lit.int .i64 a0).wf = true → (Lit.int .i64 a1).wf = true → ∃ k, proctorlaw02_FanShards.f k a0 a1 = some true
theorem proctorlaw02_FanShards.walk (P : proctorlaw02_FanShards.Pure) (a0 : Int) (a1 : Int) (w : World) (w0 : (Lit.int .i64 a0).wf = true) (w1 : (Lit.int .i64 a1).wf = true) :
    Calls Try.prog 3 #[.int .i64 a0, .int .i64 a1] w fun e w' => e = .returned (.bool true) ∧ Below w.heap.size w w' := by
  obtain ⟨k, h⟩ := P a0 a1 w0 w1
  refine (proctorlaw02_FanShards.calls k a0 a1 true w h).mono ?_
  rintro e w' ⟨rfl, hd⟩
  exact ⟨rfl, hd⟩

end Go.Proofs.Ytejihekciigbgaa.PFanShards
