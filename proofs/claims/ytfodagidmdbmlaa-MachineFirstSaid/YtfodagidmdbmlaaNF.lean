/- MachineFirst: the walk. -/
import Derived.Test.YtfodagidmdbmlaaNE
namespace Go.Proofs.Ytfodagidmdbmlaa
set_option linter.unusedVariables false
set_option linter.unusedSimpArgs false
open Go.RowKit

def cut2 (M : Mach) : Mach := if activeF M 2 = true then (doF M (aK 2)).1 else M
theorem cut2_frame {M : Mach} (h : MOK M) : MOK (cut2 M) ∧ (cut2 M).flaw = M.flaw ∧ (cut2 M).sess.length = M.sess.length := by
  unfold cut2
  split
  · have := doF_frame h.inv (aK 2)
    exact ⟨doF_ok h _, this.1, this.2.1⟩
  · exact ⟨h, rfl, rfl⟩
set_option maxRecDepth 100000 in
set_option maxHeartbeats 8000000 in
theorem first_walk (A : Option Addr) (n cap : Nat) (xs : List MStep) (key : ByteArray) (later : Bool) (w : World) (hn : xs.length = n) (hm : n < 4000000000000) (hx : ∀ o ∈ xs, o.Fits) (h : SliceRd w A 5 MStep.cells xs) (hk : key.size ≤ maxLen) :
    Calls Try.prog 7 #[.slice A n cap, .string key, .bool later] w fun e w' => e = .returned (.bool true) ∧ Below w.heap.size w w' := by
  have HX := Lib.hid hx
  have HN := Lib.hid hn
  have HR := Lib.hid h
  have HK := Lib.hid hk
  clear hx hn h hk
  go_enter Try.func7, Try.ntmps7
  go_wp2_with fail
  refine (anchor_any w).mono ?_
  rintro e w1 ⟨rfl, b1⟩
  have B1 := Lib.hid b1
  clear b1
  go_wp2_with fail
  refine (played_any A n cap xs _ HN.out hm HX.out (HR.out.below B1.out)).mono ?_
  rintro e w2 ⟨m, rfl, h2, b2⟩
  obtain ⟨M0, hM0⟩ : ∃ z, z = playF (machN 4 0) xs := ⟨_, rfl⟩
  rw [← hM0] at h2
  have HM0 := Lib.hid hM0
  have H2 := Lib.hid h2
  have B2 := Lib.hid b2
  have PL := Lib.hid (show MOK M0 ∧ M0.flaw = 0 ∧ M0.sess.length = 4 by rw [hM0]; exact played_len xs)
  have END := Lib.hid (show ∀ w', Below w1.heap.size w1 w' → Below w.heap.size w w' from fun w' hb => B1.out.trans (hb.mono B1.out.size))
  clear h2 b2 hM0
  go_wp2_with fail
  refine (active_mb w1.heap.size m M0 2 _ H2.out).mono ?_
  rintro e w2' ⟨he, rfl⟩
  obtain ⟨ac, hac⟩ : ∃ z, z = activeF M0 2 := ⟨_, rfl⟩
  rw [← hac] at he
  subst he
  have HAC := Lib.hid hac
  obtain ⟨Mc, hMc⟩ : ∃ z, z = cut2 M0 := ⟨_, rfl⟩
  have HMC := Lib.hid hMc
  clear hac hMc
  cases ac with
  | true =>
    go_wp2_with fail
    refine (do_mb w1.heap.size m M0 (aK 2) _ H2.out B2.out.size (by decide) (by decide)).mono ?_
    rintro e w3 ⟨rfl, h3, b3⟩
    have HC := Lib.hid (show MB w1.heap.size w3 m Mc by rw [HMC.out]; unfold cut2; rw [if_pos HAC.out.symm]; exact h3)
    have BC := Lib.hid (B2.out.trans b3)
    clear h3 b3
    go_wp2_with fail
    refine (free_any w1.heap.size m Mc _ HC.out BC.out.size).mono ?_
    rintro e w4 ⟨he, h4, b4⟩
    obtain ⟨fb, hfb⟩ : ∃ z, z = freeB Mc := ⟨_, rfl⟩
    rw [← hfb] at he
    subst he
    obtain ⟨M1, hM1⟩ : ∃ z, z = freeM Mc := ⟨_, rfl⟩
    rw [← hM1] at h4
    have HM1 := Lib.hid hM1
    have HFB := Lib.hid hfb
    have H4 := Lib.hid h4
    have B4 := Lib.hid (BC.out.trans b4)
    clear h4 b4 hM1 hfb
    cases fb with
    | false =>
      go_wp2_with fail
      all_goals first | (go_ret; exact ⟨rfl, END.out _ B4.out⟩) | (exfalso; omega)
    | true =>
      go_wp2_with fail
      refine (active_mb w1.heap.size m M1 2 _ H4.out).mono ?_
      rintro e w5 ⟨he, rfl⟩
      obtain ⟨a2, ha2⟩ : ∃ z, z = activeF M1 2 := ⟨_, rfl⟩
      rw [← ha2] at he
      subst he
      have HA2 := Lib.hid ha2
      clear ha2
      cases a2 with
      | true =>
        go_wp2_with fail
        all_goals first | (go_ret; exact ⟨rfl, END.out _ B4.out⟩) | (exfalso; omega)
      | false =>
        by_cases k1 : key.size < 1
        · have k1' : (key.size : Int) < 1 := by omega
          go_wp2_with fail
          all_goals first | (go_ret; exact ⟨rfl, END.out _ B4.out⟩) | (exfalso; omega)
        by_cases k2 : 8 < key.size
        · have k1' : ¬ (key.size : Int) < 1 := by omega
          have k2' : 8 < (key.size : Int) := by omega
          go_wp2_with fail
          all_goals first | (go_ret; exact ⟨rfl, END.out _ B4.out⟩) | (exfalso; omega)
        have k1' : ¬ (key.size : Int) < 1 := by omega
        have k2' : ¬ 8 < (key.size : Int) := by omega
        have q1 : decide ((key.size : Int) < 1) = false := decide_eq_false k1'
        have q2 : decide (key.size < 1) = false := decide_eq_false k1
        have q3 : decide ((key.size : Int) > 8) = false := decide_eq_false k2'
        have q4 : decide (8 < key.size) = false := decide_eq_false k2
        have q7 : decide (8 < (key.size : Int)) = false := decide_eq_false k2'
        have CF := Lib.hid (show MOK Mc ∧ Mc.flaw = 0 ∧ Mc.sess.length = 4 by
          rw [HMC.out]
          have := cut2_frame PL.out.1
          exact ⟨this.1, this.2.1.trans PL.out.2.1, this.2.2.trans PL.out.2.2⟩)
        have FOK := Lib.hid (show FreeOK M1 by rw [HM1.out]; exact free_ok CF.out.1 CF.out.2.2 HFB.out.symm)
        have FCN := Lib.hid (show M1.all.length ≤ 4004 by rw [HM1.out]; exact free_cnt CF.out.1 CF.out.2.2 HFB.out.symm)
        have FFL := Lib.hid (show M1.flaw = 0 by rw [HM1.out]; exact (freeM_frame CF.out.1).2.1.trans CF.out.2.1)
        have ID2 := Lib.hid (show ∃ q, M1.sess[2]? = some (none, q) from idle_of FOK.out.len (k := 2) (by omega) HA2.out.symm)
        have HKB := Lib.hid (show 1 ≤ key.size ∧ key.size ≤ 8 by omega)
        clear k1' k2' k1 k2
        cases later with
        | false =>
          go_wp2_with fail
          refine (do_mb w1.heap.size m M1 (bK 2) _ H4.out B4.out.size (by decide) (by decide)).mono ?_
          rintro e w10 ⟨rfl, h10, b10⟩
          obtain ⟨MA, hMA⟩ : ∃ z, z = (doF M1 (bK 2)).1 := ⟨_, rfl⟩
          rw [← hMA] at h10
          have HHMA := Lib.hid hMA
          have H10 := Lib.hid h10
          have B10 := Lib.hid (B4.out.trans b10)
          clear h10 b10 hMA
          go_wp2_with fail
          refine (do_mb w1.heap.size m MA (bK 3) _ H10.out B10.out.size (by decide) (by decide)).mono ?_
          rintro e w11 ⟨rfl, h11, b11⟩
          obtain ⟨MBb, hMBb⟩ : ∃ z, z = (doF MA (bK 3)).1 := ⟨_, rfl⟩
          rw [← hMBb] at h11
          have HHMBb := Lib.hid hMBb
          have H11 := Lib.hid h11
          have B11 := Lib.hid (B10.out.trans b11)
          clear h11 b11 hMBb
          go_wp2_with fail
          refine (do_mb w1.heap.size m MBb (wK 2 key vFirst) _ H11.out B11.out.size HK.out (show vFirst.size ≤ maxLen by decide)).mono ?_
          rintro e w12 ⟨rfl, h12, b12⟩
          obtain ⟨MCc, hMCc⟩ : ∃ z, z = (doF MBb (wK 2 key vFirst)).1 := ⟨_, rfl⟩
          rw [← hMCc] at h12
          have HHMCc := Lib.hid hMCc
          have H12 := Lib.hid h12
          have B12 := Lib.hid (B11.out.trans b12)
          clear h12 b12 hMCc
          go_wp2_with fail
          refine (do_mb w1.heap.size m MCc (cK 2) _ H12.out B12.out.size (by decide) (by decide)).mono ?_
          rintro e w13 ⟨he, h13, b13⟩
          obtain ⟨aa, va, sa, ea, hra⟩ := ans_form (doF MCc (cK 2)).2
          rw [hra] at he
          have he2 : e = .returned (.tuple #[.agg #[.bool aa, .string va, .int .i64 sa], .int .i64 ea]) := he
          subst he2
          obtain ⟨MD, hMD⟩ : ∃ z, z = (doF MCc (cK 2)).1 := ⟨_, rfl⟩
          rw [← hMD] at h13
          have HHMD := Lib.hid hMD
          have HRA := Lib.hid hra
          obtain ⟨ga, hga⟩ : ∃ z, z = w13.heap.size := ⟨_, rfl⟩
          have hba := (Below.refl w13.heap.size w13).alloc (Nat.le_refl _) (.cells #[.bool aa, .string va, .int .i64 sa] 31)
          have rba := RowAt.new w13 31 [.bool aa, .string va, .int .i64 sa]
          have hfr := h13.fresh hba (by simp)
          rw [← hga] at rba hfr
          have H13 := Lib.hid hfr
          have B13 := Lib.hid (B12.out.trans (b13.trans (hba.mono (Nat.le_trans B12.out.size b13.size))))
          have RX13 := Lib.hid rba
          have HGA := Lib.hid hga
          clear he h13 b13 hba rba hra hMD hga hfr
          go_wp2_with fail
          rw [← HGA.out]
          refine (do_mbg w1.heap.size ga m MD (wK 3 key vSecond) _ 31 _ H13.out RX13.out B13.out.size HK.out (show vSecond.size ≤ maxLen by decide)).mono ?_
          rintro e w14 ⟨rfl, h14, b14, rx14⟩
          obtain ⟨ME, hME⟩ : ∃ z, z = (doF MD (wK 3 key vSecond)).1 := ⟨_, rfl⟩
          rw [← hME] at h14
          have HHME := Lib.hid hME
          have H14 := Lib.hid h14
          have B14 := Lib.hid (B13.out.trans b14)
          have RX14 := Lib.hid rx14
          clear h14 b14 rx14 hME
          go_wp2_with fail
          refine (do_mbg w1.heap.size ga m ME (cK 3) _ 31 _ H14.out RX14.out B14.out.size (by decide) (by decide)).mono ?_
          rintro e w15 ⟨he, h15, b15, rx15⟩
          obtain ⟨ab, vb, sb, eb, hrb⟩ := ans_form (doF ME (cK 3)).2
          rw [hrb] at he
          have he2 : e = .returned (.tuple #[.agg #[.bool ab, .string vb, .int .i64 sb], .int .i64 eb]) := he
          subst he2
          obtain ⟨Mf9, hMf9⟩ : ∃ z, z = (doF ME (cK 3)).1 := ⟨_, rfl⟩
          rw [← hMf9] at h15
          have HHMf9 := Lib.hid hMf9
          have hba := (Below.refl w15.heap.size w15).alloc (Nat.le_refl _) (.cells #[.bool ab, .string vb, .int .i64 sb] 31)
          have rba := RowAt.new w15 31 [.bool ab, .string vb, .int .i64 sb]
          have HF := Lib.hid (h15.mb.below hba)
          have BF := Lib.hid (B14.out.trans (b15.trans (hba.mono (Nat.le_trans B14.out.size b15.size))))
          have RA := Lib.hid (rx15.below hba)
          have RB := Lib.hid rba
          obtain ⟨q2v, hq2v⟩ := ID2.out
          obtain ⟨l1, l2, l3⟩ := first_both FOK.out FFL.out FCN.out hq2v HKB.out HHMA.out HHMBb.out HHMCc.out HHMD.out HHME.out HHMf9.out
          rw [HRA.out] at l1
          rw [hrb] at l2
          injection l1 with l1 l1e
          injection l1 with l1a l1b
          injection l1b with l1b l1c
          injection l2 with l2 l2e
          injection l2 with l2a l2b
          injection l2b with l2b l2c
          subst l1a
          subst l1b
          subst l1c
          subst l1e
          subst l2a
          subst l2b
          subst l2c
          subst l2e
          have HVL := Lib.hid (show valueF Mf9 key = ((⟨#[102, 105, 114, 115, 116]⟩ : ByteArray), true) from l3)
          clear he h15 b15 hba rba hrb hMf9 rx15 l3 hq2v
          go_wp2_with fail
          refine (value_mb w1.heap.size m Mf9 key _ HF.out HK.out).mono ?_
          rintro e wv ⟨he, bv⟩
          rw [HVL.out] at he
          subst he
          have za := (RA.out.below bv).cell 2
          have zb := (RB.out.below bv).cell 2
          simp only [List.getElem?_cons_zero, List.getElem?_cons_succ] at za zb
          have BV := Lib.hid (END.out _ (BF.out.trans (bv.mono BF.out.size)))
          clear bv
          go_wp2_with fail
          all_goals first | (go_ret; exact ⟨rfl, BV.out⟩) | (exfalso; omega)
        | true =>
          go_wp2_with fail
          refine (do_mb w1.heap.size m M1 (bK 2) _ H4.out B4.out.size (by decide) (by decide)).mono ?_
          rintro e w10 ⟨rfl, h10, b10⟩
          obtain ⟨MA, hMA⟩ : ∃ z, z = (doF M1 (bK 2)).1 := ⟨_, rfl⟩
          rw [← hMA] at h10
          have HHMA := Lib.hid hMA
          have H10 := Lib.hid h10
          have B10 := Lib.hid (B4.out.trans b10)
          clear h10 b10 hMA
          go_wp2_with fail
          refine (do_mb w1.heap.size m MA (wK 2 key vFirst) _ H10.out B10.out.size HK.out (show vFirst.size ≤ maxLen by decide)).mono ?_
          rintro e w12 ⟨rfl, h12, b12⟩
          obtain ⟨MCc, hMCc⟩ : ∃ z, z = (doF MA (wK 2 key vFirst)).1 := ⟨_, rfl⟩
          rw [← hMCc] at h12
          have HHMCc := Lib.hid hMCc
          have H12 := Lib.hid h12
          have B12 := Lib.hid (B10.out.trans b12)
          clear h12 b12 hMCc
          go_wp2_with fail
          refine (do_mb w1.heap.size m MCc (cK 2) _ H12.out B12.out.size (by decide) (by decide)).mono ?_
          rintro e w13 ⟨he, h13, b13⟩
          obtain ⟨aa, va, sa, ea, hra⟩ := ans_form (doF MCc (cK 2)).2
          rw [hra] at he
          have he2 : e = .returned (.tuple #[.agg #[.bool aa, .string va, .int .i64 sa], .int .i64 ea]) := he
          subst he2
          obtain ⟨MD, hMD⟩ : ∃ z, z = (doF MCc (cK 2)).1 := ⟨_, rfl⟩
          rw [← hMD] at h13
          have HHMD := Lib.hid hMD
          have HRA := Lib.hid hra
          obtain ⟨ga, hga⟩ : ∃ z, z = w13.heap.size := ⟨_, rfl⟩
          have hba := (Below.refl w13.heap.size w13).alloc (Nat.le_refl _) (.cells #[.bool aa, .string va, .int .i64 sa] 31)
          have rba := RowAt.new w13 31 [.bool aa, .string va, .int .i64 sa]
          have hfr := h13.fresh hba (by simp)
          rw [← hga] at rba hfr
          have H13 := Lib.hid hfr
          have B13 := Lib.hid (B12.out.trans (b13.trans (hba.mono (Nat.le_trans B12.out.size b13.size))))
          have RX13 := Lib.hid rba
          have HGA := Lib.hid hga
          clear he h13 b13 hba rba hra hMD hga hfr
          go_wp2_with fail
          rw [← HGA.out]
          refine (do_mbg w1.heap.size ga m MD (bK 3) _ 31 _ H13.out RX13.out B13.out.size (by decide) (by decide)).mono ?_
          rintro e w11 ⟨rfl, h11, b11, rx11⟩
          obtain ⟨MBb, hMBb⟩ : ∃ z, z = (doF MD (bK 3)).1 := ⟨_, rfl⟩
          rw [← hMBb] at h11
          have HHMBb := Lib.hid hMBb
          have H11 := Lib.hid h11
          have B11 := Lib.hid (B13.out.trans b11)
          have RX11 := Lib.hid rx11
          clear h11 b11 rx11 hMBb
          go_wp2_with fail
          refine (do_mbg w1.heap.size ga m MBb (wK 3 key vSecond) _ 31 _ H11.out RX11.out B11.out.size HK.out (show vSecond.size ≤ maxLen by decide)).mono ?_
          rintro e w14 ⟨rfl, h14, b14, rx14⟩
          obtain ⟨ME, hME⟩ : ∃ z, z = (doF MBb (wK 3 key vSecond)).1 := ⟨_, rfl⟩
          rw [← hME] at h14
          have HHME := Lib.hid hME
          have H14 := Lib.hid h14
          have B14 := Lib.hid (B11.out.trans b14)
          have RX14 := Lib.hid rx14
          clear h14 b14 rx14 hME
          go_wp2_with fail
          refine (do_mbg w1.heap.size ga m ME (cK 3) _ 31 _ H14.out RX14.out B14.out.size (by decide) (by decide)).mono ?_
          rintro e w15 ⟨he, h15, b15, rx15⟩
          obtain ⟨ab, vb, sb, eb, hrb⟩ := ans_form (doF ME (cK 3)).2
          rw [hrb] at he
          have he2 : e = .returned (.tuple #[.agg #[.bool ab, .string vb, .int .i64 sb], .int .i64 eb]) := he
          subst he2
          obtain ⟨Mf9, hMf9⟩ : ∃ z, z = (doF ME (cK 3)).1 := ⟨_, rfl⟩
          rw [← hMf9] at h15
          have HHMf9 := Lib.hid hMf9
          have hba := (Below.refl w15.heap.size w15).alloc (Nat.le_refl _) (.cells #[.bool ab, .string vb, .int .i64 sb] 31)
          have rba := RowAt.new w15 31 [.bool ab, .string vb, .int .i64 sb]
          have HF := Lib.hid (h15.mb.below hba)
          have BF := Lib.hid (B14.out.trans (b15.trans (hba.mono (Nat.le_trans B14.out.size b15.size))))
          have RA := Lib.hid (rx15.below hba)
          have RB := Lib.hid rba
          obtain ⟨q2v, hq2v⟩ := ID2.out
          obtain ⟨l1, l2, l3⟩ := first_later FOK.out FFL.out FCN.out hq2v HKB.out HHMA.out HHMCc.out HHMD.out HHMBb.out HHME.out HHMf9.out
          rw [HRA.out] at l1
          rw [hrb] at l2
          injection l1 with l1 l1e
          injection l1 with l1a l1b
          injection l1b with l1b l1c
          injection l2 with l2 l2e
          injection l2 with l2a l2b
          injection l2b with l2b l2c
          subst l1a
          subst l1b
          subst l1c
          subst l1e
          subst l2a
          subst l2b
          subst l2c
          subst l2e
          have HVL := Lib.hid (show valueF Mf9 key = ((⟨#[115, 101, 99, 111, 110, 100]⟩ : ByteArray), true) from l3)
          clear he h15 b15 hba rba hrb hMf9 rx15 l3 hq2v
          go_wp2_with fail
          refine (value_mb w1.heap.size m Mf9 key _ HF.out HK.out).mono ?_
          rintro e wv ⟨he, bv⟩
          rw [HVL.out] at he
          subst he
          have za := (RA.out.below bv).cell 2
          have zb := (RB.out.below bv).cell 2
          simp only [List.getElem?_cons_zero, List.getElem?_cons_succ] at za zb
          have BV := Lib.hid (END.out _ (BF.out.trans (bv.mono BF.out.size)))
          clear bv
          go_wp2_with fail
          all_goals first | (go_ret; exact ⟨rfl, BV.out⟩) | (exfalso; omega)
  | false =>
    have HC := Lib.hid (show MB w1.heap.size w2' m Mc by rw [HMC.out]; unfold cut2; rw [← HAC.out, if_neg (by simp)]; exact H2.out)
    have BC := Lib.hid B2.out
    go_wp2_with fail
    refine (free_any w1.heap.size m Mc _ HC.out BC.out.size).mono ?_
    rintro e w4 ⟨he, h4, b4⟩
    obtain ⟨fb, hfb⟩ : ∃ z, z = freeB Mc := ⟨_, rfl⟩
    rw [← hfb] at he
    subst he
    obtain ⟨M1, hM1⟩ : ∃ z, z = freeM Mc := ⟨_, rfl⟩
    rw [← hM1] at h4
    have HM1 := Lib.hid hM1
    have HFB := Lib.hid hfb
    have H4 := Lib.hid h4
    have B4 := Lib.hid (BC.out.trans b4)
    clear h4 b4 hM1 hfb
    cases fb with
    | false =>
      go_wp2_with fail
      all_goals first | (go_ret; exact ⟨rfl, END.out _ B4.out⟩) | (exfalso; omega)
    | true =>
      go_wp2_with fail
      refine (active_mb w1.heap.size m M1 2 _ H4.out).mono ?_
      rintro e w5 ⟨he, rfl⟩
      obtain ⟨a2, ha2⟩ : ∃ z, z = activeF M1 2 := ⟨_, rfl⟩
      rw [← ha2] at he
      subst he
      have HA2 := Lib.hid ha2
      clear ha2
      cases a2 with
      | true =>
        go_wp2_with fail
        all_goals first | (go_ret; exact ⟨rfl, END.out _ B4.out⟩) | (exfalso; omega)
      | false =>
        by_cases k1 : key.size < 1
        · have k1' : (key.size : Int) < 1 := by omega
          go_wp2_with fail
          all_goals first | (go_ret; exact ⟨rfl, END.out _ B4.out⟩) | (exfalso; omega)
        by_cases k2 : 8 < key.size
        · have k1' : ¬ (key.size : Int) < 1 := by omega
          have k2' : 8 < (key.size : Int) := by omega
          go_wp2_with fail
          all_goals first | (go_ret; exact ⟨rfl, END.out _ B4.out⟩) | (exfalso; omega)
        have k1' : ¬ (key.size : Int) < 1 := by omega
        have k2' : ¬ 8 < (key.size : Int) := by omega
        have q1 : decide ((key.size : Int) < 1) = false := decide_eq_false k1'
        have q2 : decide (key.size < 1) = false := decide_eq_false k1
        have q3 : decide ((key.size : Int) > 8) = false := decide_eq_false k2'
        have q4 : decide (8 < key.size) = false := decide_eq_false k2
        have q7 : decide (8 < (key.size : Int)) = false := decide_eq_false k2'
        have CF := Lib.hid (show MOK Mc ∧ Mc.flaw = 0 ∧ Mc.sess.length = 4 by
          rw [HMC.out]
          have := cut2_frame PL.out.1
          exact ⟨this.1, this.2.1.trans PL.out.2.1, this.2.2.trans PL.out.2.2⟩)
        have FOK := Lib.hid (show FreeOK M1 by rw [HM1.out]; exact free_ok CF.out.1 CF.out.2.2 HFB.out.symm)
        have FCN := Lib.hid (show M1.all.length ≤ 4004 by rw [HM1.out]; exact free_cnt CF.out.1 CF.out.2.2 HFB.out.symm)
        have FFL := Lib.hid (show M1.flaw = 0 by rw [HM1.out]; exact (freeM_frame CF.out.1).2.1.trans CF.out.2.1)
        have ID2 := Lib.hid (show ∃ q, M1.sess[2]? = some (none, q) from idle_of FOK.out.len (k := 2) (by omega) HA2.out.symm)
        have HKB := Lib.hid (show 1 ≤ key.size ∧ key.size ≤ 8 by omega)
        clear k1' k2' k1 k2
        cases later with
        | false =>
          go_wp2_with fail
          refine (do_mb w1.heap.size m M1 (bK 2) _ H4.out B4.out.size (by decide) (by decide)).mono ?_
          rintro e w10 ⟨rfl, h10, b10⟩
          obtain ⟨MA, hMA⟩ : ∃ z, z = (doF M1 (bK 2)).1 := ⟨_, rfl⟩
          rw [← hMA] at h10
          have HHMA := Lib.hid hMA
          have H10 := Lib.hid h10
          have B10 := Lib.hid (B4.out.trans b10)
          clear h10 b10 hMA
          go_wp2_with fail
          refine (do_mb w1.heap.size m MA (bK 3) _ H10.out B10.out.size (by decide) (by decide)).mono ?_
          rintro e w11 ⟨rfl, h11, b11⟩
          obtain ⟨MBb, hMBb⟩ : ∃ z, z = (doF MA (bK 3)).1 := ⟨_, rfl⟩
          rw [← hMBb] at h11
          have HHMBb := Lib.hid hMBb
          have H11 := Lib.hid h11
          have B11 := Lib.hid (B10.out.trans b11)
          clear h11 b11 hMBb
          go_wp2_with fail
          refine (do_mb w1.heap.size m MBb (wK 2 key vFirst) _ H11.out B11.out.size HK.out (show vFirst.size ≤ maxLen by decide)).mono ?_
          rintro e w12 ⟨rfl, h12, b12⟩
          obtain ⟨MCc, hMCc⟩ : ∃ z, z = (doF MBb (wK 2 key vFirst)).1 := ⟨_, rfl⟩
          rw [← hMCc] at h12
          have HHMCc := Lib.hid hMCc
          have H12 := Lib.hid h12
          have B12 := Lib.hid (B11.out.trans b12)
          clear h12 b12 hMCc
          go_wp2_with fail
          refine (do_mb w1.heap.size m MCc (cK 2) _ H12.out B12.out.size (by decide) (by decide)).mono ?_
          rintro e w13 ⟨he, h13, b13⟩
          obtain ⟨aa, va, sa, ea, hra⟩ := ans_form (doF MCc (cK 2)).2
          rw [hra] at he
          have he2 : e = .returned (.tuple #[.agg #[.bool aa, .string va, .int .i64 sa], .int .i64 ea]) := he
          subst he2
          obtain ⟨MD, hMD⟩ : ∃ z, z = (doF MCc (cK 2)).1 := ⟨_, rfl⟩
          rw [← hMD] at h13
          have HHMD := Lib.hid hMD
          have HRA := Lib.hid hra
          obtain ⟨ga, hga⟩ : ∃ z, z = w13.heap.size := ⟨_, rfl⟩
          have hba := (Below.refl w13.heap.size w13).alloc (Nat.le_refl _) (.cells #[.bool aa, .string va, .int .i64 sa] 31)
          have rba := RowAt.new w13 31 [.bool aa, .string va, .int .i64 sa]
          have hfr := h13.fresh hba (by simp)
          rw [← hga] at rba hfr
          have H13 := Lib.hid hfr
          have B13 := Lib.hid (B12.out.trans (b13.trans (hba.mono (Nat.le_trans B12.out.size b13.size))))
          have RX13 := Lib.hid rba
          have HGA := Lib.hid hga
          clear he h13 b13 hba rba hra hMD hga hfr
          go_wp2_with fail
          rw [← HGA.out]
          refine (do_mbg w1.heap.size ga m MD (wK 3 key vSecond) _ 31 _ H13.out RX13.out B13.out.size HK.out (show vSecond.size ≤ maxLen by decide)).mono ?_
          rintro e w14 ⟨rfl, h14, b14, rx14⟩
          obtain ⟨ME, hME⟩ : ∃ z, z = (doF MD (wK 3 key vSecond)).1 := ⟨_, rfl⟩
          rw [← hME] at h14
          have HHME := Lib.hid hME
          have H14 := Lib.hid h14
          have B14 := Lib.hid (B13.out.trans b14)
          have RX14 := Lib.hid rx14
          clear h14 b14 rx14 hME
          go_wp2_with fail
          refine (do_mbg w1.heap.size ga m ME (cK 3) _ 31 _ H14.out RX14.out B14.out.size (by decide) (by decide)).mono ?_
          rintro e w15 ⟨he, h15, b15, rx15⟩
          obtain ⟨ab, vb, sb, eb, hrb⟩ := ans_form (doF ME (cK 3)).2
          rw [hrb] at he
          have he2 : e = .returned (.tuple #[.agg #[.bool ab, .string vb, .int .i64 sb], .int .i64 eb]) := he
          subst he2
          obtain ⟨Mf9, hMf9⟩ : ∃ z, z = (doF ME (cK 3)).1 := ⟨_, rfl⟩
          rw [← hMf9] at h15
          have HHMf9 := Lib.hid hMf9
          have hba := (Below.refl w15.heap.size w15).alloc (Nat.le_refl _) (.cells #[.bool ab, .string vb, .int .i64 sb] 31)
          have rba := RowAt.new w15 31 [.bool ab, .string vb, .int .i64 sb]
          have HF := Lib.hid (h15.mb.below hba)
          have BF := Lib.hid (B14.out.trans (b15.trans (hba.mono (Nat.le_trans B14.out.size b15.size))))
          have RA := Lib.hid (rx15.below hba)
          have RB := Lib.hid rba
          obtain ⟨q2v, hq2v⟩ := ID2.out
          obtain ⟨l1, l2, l3⟩ := first_both FOK.out FFL.out FCN.out hq2v HKB.out HHMA.out HHMBb.out HHMCc.out HHMD.out HHME.out HHMf9.out
          rw [HRA.out] at l1
          rw [hrb] at l2
          injection l1 with l1 l1e
          injection l1 with l1a l1b
          injection l1b with l1b l1c
          injection l2 with l2 l2e
          injection l2 with l2a l2b
          injection l2b with l2b l2c
          subst l1a
          subst l1b
          subst l1c
          subst l1e
          subst l2a
          subst l2b
          subst l2c
          subst l2e
          have HVL := Lib.hid (show valueF Mf9 key = ((⟨#[102, 105, 114, 115, 116]⟩ : ByteArray), true) from l3)
          clear he h15 b15 hba rba hrb hMf9 rx15 l3 hq2v
          go_wp2_with fail
          refine (value_mb w1.heap.size m Mf9 key _ HF.out HK.out).mono ?_
          rintro e wv ⟨he, bv⟩
          rw [HVL.out] at he
          subst he
          have za := (RA.out.below bv).cell 2
          have zb := (RB.out.below bv).cell 2
          simp only [List.getElem?_cons_zero, List.getElem?_cons_succ] at za zb
          have BV := Lib.hid (END.out _ (BF.out.trans (bv.mono BF.out.size)))
          clear bv
          go_wp2_with fail
          all_goals first | (go_ret; exact ⟨rfl, BV.out⟩) | (exfalso; omega)
        | true =>
          go_wp2_with fail
          refine (do_mb w1.heap.size m M1 (bK 2) _ H4.out B4.out.size (by decide) (by decide)).mono ?_
          rintro e w10 ⟨rfl, h10, b10⟩
          obtain ⟨MA, hMA⟩ : ∃ z, z = (doF M1 (bK 2)).1 := ⟨_, rfl⟩
          rw [← hMA] at h10
          have HHMA := Lib.hid hMA
          have H10 := Lib.hid h10
          have B10 := Lib.hid (B4.out.trans b10)
          clear h10 b10 hMA
          go_wp2_with fail
          refine (do_mb w1.heap.size m MA (wK 2 key vFirst) _ H10.out B10.out.size HK.out (show vFirst.size ≤ maxLen by decide)).mono ?_
          rintro e w12 ⟨rfl, h12, b12⟩
          obtain ⟨MCc, hMCc⟩ : ∃ z, z = (doF MA (wK 2 key vFirst)).1 := ⟨_, rfl⟩
          rw [← hMCc] at h12
          have HHMCc := Lib.hid hMCc
          have H12 := Lib.hid h12
          have B12 := Lib.hid (B10.out.trans b12)
          clear h12 b12 hMCc
          go_wp2_with fail
          refine (do_mb w1.heap.size m MCc (cK 2) _ H12.out B12.out.size (by decide) (by decide)).mono ?_
          rintro e w13 ⟨he, h13, b13⟩
          obtain ⟨aa, va, sa, ea, hra⟩ := ans_form (doF MCc (cK 2)).2
          rw [hra] at he
          have he2 : e = .returned (.tuple #[.agg #[.bool aa, .string va, .int .i64 sa], .int .i64 ea]) := he
          subst he2
          obtain ⟨MD, hMD⟩ : ∃ z, z = (doF MCc (cK 2)).1 := ⟨_, rfl⟩
          rw [← hMD] at h13
          have HHMD := Lib.hid hMD
          have HRA := Lib.hid hra
          obtain ⟨ga, hga⟩ : ∃ z, z = w13.heap.size := ⟨_, rfl⟩
          have hba := (Below.refl w13.heap.size w13).alloc (Nat.le_refl _) (.cells #[.bool aa, .string va, .int .i64 sa] 31)
          have rba := RowAt.new w13 31 [.bool aa, .string va, .int .i64 sa]
          have hfr := h13.fresh hba (by simp)
          rw [← hga] at rba hfr
          have H13 := Lib.hid hfr
          have B13 := Lib.hid (B12.out.trans (b13.trans (hba.mono (Nat.le_trans B12.out.size b13.size))))
          have RX13 := Lib.hid rba
          have HGA := Lib.hid hga
          clear he h13 b13 hba rba hra hMD hga hfr
          go_wp2_with fail
          rw [← HGA.out]
          refine (do_mbg w1.heap.size ga m MD (bK 3) _ 31 _ H13.out RX13.out B13.out.size (by decide) (by decide)).mono ?_
          rintro e w11 ⟨rfl, h11, b11, rx11⟩
          obtain ⟨MBb, hMBb⟩ : ∃ z, z = (doF MD (bK 3)).1 := ⟨_, rfl⟩
          rw [← hMBb] at h11
          have HHMBb := Lib.hid hMBb
          have H11 := Lib.hid h11
          have B11 := Lib.hid (B13.out.trans b11)
          have RX11 := Lib.hid rx11
          clear h11 b11 rx11 hMBb
          go_wp2_with fail
          refine (do_mbg w1.heap.size ga m MBb (wK 3 key vSecond) _ 31 _ H11.out RX11.out B11.out.size HK.out (show vSecond.size ≤ maxLen by decide)).mono ?_
          rintro e w14 ⟨rfl, h14, b14, rx14⟩
          obtain ⟨ME, hME⟩ : ∃ z, z = (doF MBb (wK 3 key vSecond)).1 := ⟨_, rfl⟩
          rw [← hME] at h14
          have HHME := Lib.hid hME
          have H14 := Lib.hid h14
          have B14 := Lib.hid (B11.out.trans b14)
          have RX14 := Lib.hid rx14
          clear h14 b14 rx14 hME
          go_wp2_with fail
          refine (do_mbg w1.heap.size ga m ME (cK 3) _ 31 _ H14.out RX14.out B14.out.size (by decide) (by decide)).mono ?_
          rintro e w15 ⟨he, h15, b15, rx15⟩
          obtain ⟨ab, vb, sb, eb, hrb⟩ := ans_form (doF ME (cK 3)).2
          rw [hrb] at he
          have he2 : e = .returned (.tuple #[.agg #[.bool ab, .string vb, .int .i64 sb], .int .i64 eb]) := he
          subst he2
          obtain ⟨Mf9, hMf9⟩ : ∃ z, z = (doF ME (cK 3)).1 := ⟨_, rfl⟩
          rw [← hMf9] at h15
          have HHMf9 := Lib.hid hMf9
          have hba := (Below.refl w15.heap.size w15).alloc (Nat.le_refl _) (.cells #[.bool ab, .string vb, .int .i64 sb] 31)
          have rba := RowAt.new w15 31 [.bool ab, .string vb, .int .i64 sb]
          have HF := Lib.hid (h15.mb.below hba)
          have BF := Lib.hid (B14.out.trans (b15.trans (hba.mono (Nat.le_trans B14.out.size b15.size))))
          have RA := Lib.hid (rx15.below hba)
          have RB := Lib.hid rba
          obtain ⟨q2v, hq2v⟩ := ID2.out
          obtain ⟨l1, l2, l3⟩ := first_later FOK.out FFL.out FCN.out hq2v HKB.out HHMA.out HHMCc.out HHMD.out HHMBb.out HHME.out HHMf9.out
          rw [HRA.out] at l1
          rw [hrb] at l2
          injection l1 with l1 l1e
          injection l1 with l1a l1b
          injection l1b with l1b l1c
          injection l2 with l2 l2e
          injection l2 with l2a l2b
          injection l2b with l2b l2c
          subst l1a
          subst l1b
          subst l1c
          subst l1e
          subst l2a
          subst l2b
          subst l2c
          subst l2e
          have HVL := Lib.hid (show valueF Mf9 key = ((⟨#[115, 101, 99, 111, 110, 100]⟩ : ByteArray), true) from l3)
          clear he h15 b15 hba rba hrb hMf9 rx15 l3 hq2v
          go_wp2_with fail
          refine (value_mb w1.heap.size m Mf9 key _ HF.out HK.out).mono ?_
          rintro e wv ⟨he, bv⟩
          rw [HVL.out] at he
          subst he
          have za := (RA.out.below bv).cell 2
          have zb := (RB.out.below bv).cell 2
          simp only [List.getElem?_cons_zero, List.getElem?_cons_succ] at za zb
          have BV := Lib.hid (END.out _ (BF.out.trans (bv.mono BF.out.size)))
          clear bv
          go_wp2_with fail
          all_goals first | (go_ret; exact ⟨rfl, BV.out⟩) | (exfalso; omega)

end Go.Proofs.Ytfodagidmdbmlaa
