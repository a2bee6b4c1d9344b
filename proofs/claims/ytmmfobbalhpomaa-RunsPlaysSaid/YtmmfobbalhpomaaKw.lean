/- RunsKeeps: the walk. -/
import Derived.Test.YtmmfobbalhpomaaKe
import Derived.Test.YtmmfobbalhpomaaOp2
import Derived.Deep.CutRange
namespace Go.Proofs.Ytmmfobbalhpomaa
set_option linter.unusedVariables false
set_option linter.unusedSimpArgs false
open Go.RowKit
attribute [local go_sem high] eqA30

theorem own_empty (w : World) : Own (w.alloc (.cells #[] 30)) w.heap.size 30 7 Row.cells (.slice (some ⟨w.heap.size, 0, none⟩) 0 0) [] :=
  ⟨rfl, .inr ⟨w.heap.size, 0, #[], rfl, Nat.le_refl _, heap_alloc_new w _, Nat.le_refl _, Nat.zero_le _, rfl, rfl⟩⟩
set_option maxHeartbeats 1000000 in
theorem keeps_skip (o : Int) (A : Option Addr) (m cap : Nat) (w : World) (hm : m ≤ maxLen) (h : o < 1 ∨ 2 < o ∨ 300 < m) :
    Calls Try.prog 6 #[.int .i64 o, .slice A m cap] w fun e w' => e = .returned (.bool true) ∧ Below w.heap.size w w' := by
  unfold maxLen at hm
  go_enter Try.func6, Try.ntmps6
  go_wp2_with fail
  refine (anchor_any w).mono ?_
  rintro e w1 ⟨rfl, b1⟩
  have B1 := Lib.hid b1
  clear b1
  by_cases h1 : o < 1
  · go_wp2_with fail
    go_ret
    exact ⟨rfl, B1.out⟩
  · by_cases h2 : 2 < o
    · go_wp2_with fail
      go_ret
      exact ⟨rfl, B1.out⟩
    · have h3 : 300 < m := by omega
      have h4 : (300 : Int) < (m : Int) := by omega
      go_wp2_with fail
      go_ret
      exact ⟨rfl, B1.out⟩
theorem row_view {w : World} {v : Value} {base : Nat} {rows : List Row} (h : Own w base 30 7 Row.cells v rows) : ∃ A cap, v = .slice A rows.length cap ∧ RowsAt w A rows := by
  rcases h.cases with ⟨rfl, rfl⟩ | ⟨g, cap, rest, rfl, -, -, -, hr⟩
  · exact ⟨none, 0, rfl, fun i x hx => by simp at hx⟩
  · refine ⟨_, cap, rfl, fun i x hx => ⟨g, 0, rfl, hr.lt, fun j hj => ?_⟩⟩
    rw [hr.cell, Nat.zero_add, List.getElem?_append_left (by rw [flat_length Row.cells_length]; have := (List.getElem?_eq_some_iff.1 hx).1; omega)]
    exact flat_at Row.cells_length rows i j hj hx
set_option maxRecDepth 100000 in
set_option maxHeartbeats 6400000 in
theorem keeps_walk (o : Int) (ho : o = 1 ∨ o = 2) (A : Option Addr) (m cap : Nat) (rows : List Row) (w : World) (hm : rows.length = m) (hml : m ≤ 300) (hR : SliceRd w A 7 Row.cells rows) (hz : A = none → cap = 0) :
    Calls Try.prog 6 #[.int .i64 o, .slice A m cap] w fun e w' => e = .returned (.bool true) ∧ Below w.heap.size w w' := by
  have h1 : ¬ o < 1 := by omega
  have h2 : ¬ 2 < o := by omega
  have h3 : ¬ (300 : Int) < (m : Int) := by omega
  have HM := Lib.hid hm
  have HO := Lib.hid ho
  have HR := Lib.hid (rows_rd hR)
  have RD := Lib.hid (by have := hR.read (cap := cap) Row.cells_length hz; rwa [hm] at this)
  clear hm hR hz
  go_enter Try.func6, Try.ntmps6
  go_wp2_with fail
  refine (anchor_any w).mono ?_
  rintro e w1 ⟨rfl, b1⟩
  have B1 := Lib.hid b1
  have R1 := Lib.hid (HR.out.below b1)
  have O1 := Lib.hid (own_empty w1)
  have BE := Lib.hid ((Below.refl w1.heap.size w1).alloc (Nat.le_refl _) (.cells #[] 30))
  clear b1 ho
  have RD1 := Lib.hid ((RD.out.below B1.out).below BE.out)
  go_wp2_with (at_builtin; refine cat_list Row.cells 30 31 31 30 (.agg Row.zero.cells.toArray) 7 64 Try.underlying31 Try.underlying31 (by kernel_rfl) rfl (by decide) Row.cells_length row_one _ _ (by rfl) (by rfl) w1.heap.size (.slice (some ⟨w1.heap.size, 0, none⟩) 0 0) [] rows (by rfl) O1.out (.slice A m cap) (by rfl) RD1.out ?_ ?_ (by simp) ?_)
  · rw [HM.out]; unfold maxLen; simp; omega
  · rw [HM.out]; simp; omega
  · intro v' w2 o2 g2 l2
    have o2 : Own w2 w1.heap.size 30 7 Row.cells v' rows := o2
    have hb2 := Below.grown BE.out g2 (by simp) (fun k hk => by simp [Value.ownBlock] at hk; omega)
    have R2 := Lib.hid (R1.out.below hb2)
    have B2 := Lib.hid (B1.out.trans (hb2.mono B1.out.size))
    obtain ⟨A2, cap2, rfl, rr2⟩ := row_view o2
    have RR2 := Lib.hid rr2
    clear o2 g2 l2 hb2 rr2 RD RD1 BE R1 O1 B1
    rw [HM.out]
    go_wp2_with fail
    refine (sort_any o HO.out A2 m cap2 rows HM.out (by omega) _ RR2.out).mono ?_
    rintro e w3 ⟨v3, out, rfl, hs, o3, b3⟩
    have B3 := Lib.hid (B2.out.trans (b3.mono B2.out.size))
    have R3 := Lib.hid (R2.out.below b3)
    have HS := Lib.hid hs
    obtain ⟨A3, cap3, rfl, rr3⟩ := row_view o3
    obtain ⟨srt, hsrt⟩ : ∃ l, l = out.map Nm.row := ⟨_, rfl⟩
    have hsl : srt.length = m := by rw [hsrt, List.length_map, hs.length, HM.out]
    rw [← hsrt] at rr3 ⊢
    rw [hsl]
    have RR3 := Lib.hid rr3
    have HSL := Lib.hid hsl
    have HSRT := Lib.hid hsrt
    clear hs o3 b3 rr3 hsl hsrt RR2 R2 B2
    have hq : ((m : Int) != (m : Int)) = false := by simp
    go_wp2_with fail
    go_loopw [43] (fun i wr => ∃ k : Nat, k ≤ m ∧ i = .int .i64 k ∧ Hid (Below w3.heap.size w3 wr)) (fun i _ => m - (intOf i).toNat)
    case atStart => exact ⟨0, by omega, rfl, Below.refl _ _⟩
    case round =>
      obtain ⟨k, hk, rfl, HB⟩ := hrel
      by_cases hlt : k < m
      · obtain ⟨x, hx⟩ : ∃ x, srt[k]? = some x := ⟨_, List.getElem?_eq_getElem (by rw [HSL.out]; exact hlt)⟩
        obtain ⟨b, off, rfl, hb, hc⟩ := (RR3.out.below HB.out) k x hx
        have HX := Lib.hid hx
        obtain ⟨x0, x1, x2, x3, x4, x5, x6⟩ := x
        have c0 := hc 0 (by omega)
        have c1 := hc 1 (by omega)
        have c2 := hc 2 (by omega)
        have c3 := hc 3 (by omega)
        have c4 := hc 4 (by omega)
        have c5 := hc 5 (by omega)
        have c6 := hc 6 (by omega)
        simp only [Row.cells, List.getElem?_cons_zero, List.getElem?_cons_succ, Nat.add_zero] at c0 c1 c2 c3 c4 c5 c6
        clear hx hc
        go_upto_region 11 with fail
        have hba := (Below.refl wr.heap.size wr).alloc (Nat.le_refl _) (.cells #[.int .i64 x0, .int .i64 x1, .int .i64 x2, .int .i64 x3, .int .i64 x4, .int .i64 x5, .string x6] 30)
        have RX := Lib.hid (show RowAt (wr.alloc (.cells #[.int .i64 x0, .int .i64 x1, .int .i64 x2, .int .i64 x3, .int .i64 x4, .int .i64 x5, .string x6] 30)) wr.heap.size 30 (Row.cells ⟨x0, x1, x2, x3, x4, x5, x6⟩) from RowAt.new wr 30 (Row.cells ⟨x0, x1, x2, x3, x4, x5, x6⟩))
        have HB1 := Lib.hid (HB.out.trans (hba.mono HB.out.size))
        clear hba
        go_cut [60] from 48 to 60 (fun t wc => t = .bool false ∧ Hid (Below w3.heap.size w3 wc) ∧ Hid (RowAt wc wr.heap.size 30 (Row.cells ⟨x0, x1, x2, x3, x4, x5, x6⟩)))
        case first =>
          by_cases hk0 : k = 0
          · have hd : decide ((0 : Int) < (k : Int)) = false := decide_eq_false (by omega)
            have hdn : decide (0 < k) = false := decide_eq_false (by omega)
            clear hk0
            go_quiet (fail)
            go_wp2_with fail
            go_meet
            case rel => exact ⟨rfl, belowN HB1.out _, RX.out⟩
          · obtain ⟨j, hj⟩ : ∃ j, j + 1 = k := ⟨k - 1, by omega⟩
            obtain ⟨y, hy⟩ : ∃ y, srt[j]? = some y := ⟨_, List.getElem?_eq_getElem (by rw [HSL.out]; omega)⟩
            have hcmp := sorted_cmp HO.out HS.out (by rw [← HSRT.out]; exact hy) (by rw [← HSRT.out, hj]; exact HX.out)
            obtain ⟨b2, off2, e2, -, hc2⟩ := (RR3.out.below HB1.out) j y hy
            injection e2 with e2
            injection e2 with e21 e22
            subst e21 e22
            obtain ⟨y0, y1, y2, y3, y4, y5, y6⟩ := y
            obtain ⟨c9, hc9⟩ : ∃ c, c = cmpRow o ⟨y0, y1, y2, y3, y4, y5, y6⟩ ⟨x0, x1, x2, x3, x4, x5, x6⟩ := ⟨_, rfl⟩
            rw [← hc9] at hcmp
            have HC9 := Lib.hid hc9
            have d0 := hc2 0 (by omega)
            have d1 := hc2 1 (by omega)
            have d2 := hc2 2 (by omega)
            have d3 := hc2 3 (by omega)
            have d4 := hc2 4 (by omega)
            have d5 := hc2 5 (by omega)
            have d6 := hc2 6 (by omega)
            simp only [Row.cells, List.getElem?_cons_zero, List.getElem?_cons_succ, Nat.add_zero] at d0 d1 d2 d3 d4 d5 d6
            clear hc2 hc9 hy
            have hd : decide ((0 : Int) < (k : Int)) = true := decide_eq_true (by omega)
            have hdn : decide (0 < k) = true := decide_eq_true (by omega)
            have hw1 : IntKind.i64.wrap ((k : Int) - 1) = (j : Int) := by rw [wrap_in (by omega) (by omega)]; omega
            have hw2 : (0 : Int) ≤ (j : Int) := by omega
            have hw3 : (j : Int) < (m : Int) := by omega
            have hg : decide ((0 : Int) < c9) = false := decide_eq_false (by omega)
            clear hj hk0
            obtain ⟨f0, f1, f2, f3, f4, f5, f6⟩ : _ ∧ _ ∧ _ ∧ _ ∧ _ ∧ _ ∧ _ := ⟨RX.out.cell 0, RX.out.cell 1, RX.out.cell 2, RX.out.cell 3, RX.out.cell 4, RX.out.cell 5, RX.out.cell 6⟩
            simp only [Row.cells, List.getElem?_cons_zero, List.getElem?_cons_succ] at f0 f1 f2 f3 f4 f5 f6
            generalize wr.alloc (.cells #[.int .i64 x0, .int .i64 x1, .int .i64 x2, .int .i64 x3, .int .i64 x4, .int .i64 x5, .string x6] 30) = WW at RX HB1 d0 d1 d2 d3 d4 d5 d6 f0 f1 f2 f3 f4 f5 f6 ⊢
            refine wp_region_still_tail 10 (by kernel_rfl) (by kernel_rfl) ?_
            simp only [List.take_succ_cons, List.take_zero, List.drop_succ_cons, List.drop_zero]
            repeat still_step
            refine wpStill_nil ?_
            change wpList _ _ _ _ _ (World.drew _)
            go_wp2_with (go_at_call 23; refine (cmp_any o HO.out ⟨y0, y1, y2, y3, y4, y5, y6⟩ ⟨x0, x1, x2, x3, x4, x5, x6⟩ _).mono ?_; rintro e w4 ⟨rfl, b4⟩; rw [← HC9.out]; have RX4 := Lib.hid ((RX.out.drew).below b4); have B4 := Lib.hid (HB1.out.drew.trans (b4.mono HB1.out.size)); clear b4)
            go_meet
            case rel => exact ⟨rfl, B4.out, RX4.out⟩
        case rest =>
          obtain ⟨rfl, HBc, RXc⟩ := hcut
          clear c0 c1 c2 c3 c4 c5 c6
          go_wp2_with fail
          go_loopw [63, 9] (fun i v ws => ∃ (q : Nat) (d : Int), q ≤ m ∧ i = .int .i64 q ∧ v = .int .i64 d ∧ -(q : Int) ≤ d ∧ d ≤ q ∧ Hid (d = (cnt (srt.take q) ⟨x0, x1, x2, x3, x4, x5, x6⟩ : Int) - cnt (rows.take q) ⟨x0, x1, x2, x3, x4, x5, x6⟩) ∧ Hid (Below wc.heap.size wc ws)) (fun i _ _ => m - (intOf i).toNat)
          case atStart => exact ⟨0, 0, by omega, rfl, rfl, by omega, by omega, Lib.hid (by simp [cnt]), Below.refl _ _⟩
          case round =>
            obtain ⟨q, d, hq9, rfl, rfl, hd1, hd2, HD, HBs⟩ := hrel
            by_cases hlq : q < m
            · obtain ⟨y, hy⟩ : ∃ y, srt[q]? = some y := ⟨_, List.getElem?_eq_getElem (by rw [HSL.out]; omega)⟩
              obtain ⟨z, hz⟩ : ∃ z, rows[q]? = some z := ⟨_, List.getElem?_eq_getElem (by rw [HM.out]; omega)⟩
              have HBW := Lib.hid (HBc.out.trans (HBs.out.mono HBc.out.size))
              obtain ⟨b2, off2, e2, -, hc2⟩ := (RR3.out.below HBW.out) q y hy
              injection e2 with e2
              injection e2 with e21 e22
              subst e21 e22
              obtain ⟨b3, off3, rfl, -, hc3⟩ := (R3.out.below HBW.out) q z hz
              have HC1 := Lib.hid (show cnt (srt.take (q + 1)) ⟨x0, x1, x2, x3, x4, x5, x6⟩ = cnt (srt.take q) ⟨x0, x1, x2, x3, x4, x5, x6⟩ + if Row.eqb y ⟨x0, x1, x2, x3, x4, x5, x6⟩ = true then 1 else 0 by rw [List.take_add_one, hy, Option.toList_some, cnt_snoc])
              have HC2 := Lib.hid (show cnt (rows.take (q + 1)) ⟨x0, x1, x2, x3, x4, x5, x6⟩ = cnt (rows.take q) ⟨x0, x1, x2, x3, x4, x5, x6⟩ + if Row.eqb z ⟨x0, x1, x2, x3, x4, x5, x6⟩ = true then 1 else 0 by rw [List.take_add_one, hz, Option.toList_some, cnt_snoc])
              obtain ⟨y0, y1, y2, y3, y4, y5, y6⟩ := y
              obtain ⟨z0, z1, z2, z3, z4, z5, z6⟩ := z
              have d0 := hc2 0 (by omega)
              have d1 := hc2 1 (by omega)
              have d2 := hc2 2 (by omega)
              have d3 := hc2 3 (by omega)
              have d4 := hc2 4 (by omega)
              have d5 := hc2 5 (by omega)
              have d6 := hc2 6 (by omega)
              have e0 := hc3 0 (by omega)
              have e1 := hc3 1 (by omega)
              have e2 := hc3 2 (by omega)
              have e3 := hc3 3 (by omega)
              have e4 := hc3 4 (by omega)
              have e5 := hc3 5 (by omega)
              have e6 := hc3 6 (by omega)
              simp only [Row.cells, List.getElem?_cons_zero, List.getElem?_cons_succ, Nat.add_zero] at d0 d1 d2 d3 d4 d5 d6 e0 e1 e2 e3 e4 e5 e6
              have RXs := RXc.out.below HBs.out
              obtain ⟨f0, f1, f2, f3, f4, f5, f6⟩ : _ ∧ _ ∧ _ ∧ _ ∧ _ ∧ _ ∧ _ := ⟨RXs.cell 0, RXs.cell 1, RXs.cell 2, RXs.cell 3, RXs.cell 4, RXs.cell 5, RXs.cell 6⟩
              simp only [Row.cells, List.getElem?_cons_zero, List.getElem?_cons_succ] at f0 f1 f2 f3 f4 f5 f6
              have hw2 : (0 : Int) ≤ (q : Int) := by omega
              have hw3 : (q : Int) < (m : Int) := by omega
              clear hy hz hc2 hc3 RXs
              cases hb1 : Row.eqb ⟨y0, y1, y2, y3, y4, y5, y6⟩ ⟨x0, x1, x2, x3, x4, x5, x6⟩ with
              | true =>
                cases hb2 : Row.eqb ⟨z0, z1, z2, z3, z4, z5, z6⟩ ⟨x0, x1, x2, x3, x4, x5, x6⟩ with
                | true =>
                  go_wp2_with fail
                  go_quiet (fail)
                  go_wp2_with fail
                  go_quiet (fail)
                  go_wp2_with fail
                  go_roundw
                  case rel => exact ⟨q + 1, d + 1 - 1, by omega, by go_num, by first | rfl | go_num, by omega, by omega, Lib.hid (by have e1 := HC1.out; have e2 := HC2.out; rw [hb1] at e1; rw [hb2] at e2; have := HD.out; simp at e1 e2; omega), belowN HBs.out _⟩
                  case measure => simp [intOf]; omega
                | false =>
                  go_wp2_with fail
                  go_quiet (fail)
                  go_wp2_with fail
                  go_quiet (fail)
                  go_wp2_with fail
                  go_roundw
                  case rel => exact ⟨q + 1, d + 1, by omega, by go_num, by first | rfl | go_num, by omega, by omega, Lib.hid (by have e1 := HC1.out; have e2 := HC2.out; rw [hb1] at e1; rw [hb2] at e2; have := HD.out; simp at e1 e2; omega), belowN HBs.out _⟩
                  case measure => simp [intOf]; omega
              | false =>
                cases hb2 : Row.eqb ⟨z0, z1, z2, z3, z4, z5, z6⟩ ⟨x0, x1, x2, x3, x4, x5, x6⟩ with
                | true =>
                  go_wp2_with fail
                  go_quiet (fail)
                  go_wp2_with fail
                  go_quiet (fail)
                  go_wp2_with fail
                  go_roundw
                  case rel => exact ⟨q + 1, d - 1, by omega, by go_num, by first | rfl | go_num, by omega, by omega, Lib.hid (by have e1 := HC1.out; have e2 := HC2.out; rw [hb1] at e1; rw [hb2] at e2; have := HD.out; simp at e1 e2; omega), belowN HBs.out _⟩
                  case measure => simp [intOf]; omega
                | false =>
                  go_wp2_with fail
                  go_quiet (fail)
                  go_wp2_with fail
                  go_quiet (fail)
                  go_wp2_with fail
                  go_roundw
                  case rel => exact ⟨q + 1, d, by omega, by go_num, by first | rfl | go_num, by omega, by omega, Lib.hid (by have e1 := HC1.out; have e2 := HC2.out; rw [hb1] at e1; rw [hb2] at e2; have := HD.out; simp at e1 e2; omega), belowN HBs.out _⟩
                  case measure => simp [intOf]; omega
            · obtain rfl : q = m := by omega
              have ed : d = 0 := by
                have h1 := HD.out
                rw [List.take_of_length_le (by rw [HSL.out]; exact Nat.le_refl _), List.take_of_length_le (by rw [HM.out]; exact Nat.le_refl _)] at h1
                have h2 := cnt_perm HS.out ⟨x0, x1, x2, x3, x4, x5, x6⟩
                rw [← HSRT.out] at h2
                omega
              subst ed
              have HB9 := Lib.hid (HBc.out.trans (HBs.out.mono HBc.out.size))
              go_wp2_with fail
              go_roundw
              case rel => exact ⟨k + 1, by omega, by go_num, HB9.out⟩
              case measure => simp [intOf]; omega
      · go_wp2_with fail
        go_ret
        exact ⟨rfl, B3.out.trans (HB.out.mono B3.out.size)⟩

theorem keeps_any (o : Int) (A : Option Addr) (m cap : Nat) (rows : List Row) (w : World) (hm : rows.length = m) (hml : m ≤ maxLen) (hR : SliceRd w A 7 Row.cells rows) (hz : A = none → cap = 0) :
    Calls Try.prog 6 #[.int .i64 o, .slice A m cap] w fun e w' => e = .returned (.bool true) ∧ Below w.heap.size w w' := by
  by_cases h : o < 1 ∨ 2 < o ∨ 300 < m
  · exact keeps_skip o A m cap w hml h
  · exact keeps_walk o (by omega) A m cap rows w hm (by omega) hR hz

end Go.Proofs.Ytmmfobbalhpomaa
