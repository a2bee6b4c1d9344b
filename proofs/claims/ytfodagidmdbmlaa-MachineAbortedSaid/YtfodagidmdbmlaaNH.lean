/- MachineAborted: the walk. -/
import Derived.Test.YtfodagidmdbmlaaNB
import Derived.Test.YtfodagidmdbmlaaNG
namespace Go.Proofs.Ytfodagidmdbmlaa
set_option linter.unusedVariables false
set_option linter.unusedSimpArgs false
open Go.RowKit

abbrev Ans := Bool × ByteArray × Int
def ansC (x : Ans) : List Value := [.bool x.1, .string x.2.1, .int .i64 x.2.2]
theorem ansC_len (x : Ans) : (ansC x).length = 3 := rfl
theorem ansC_one (x : Ans) : ∀ u ∈ ansC x, u.oneCell' = true := by
  intro u hu
  simp [ansC] at hu
  rcases hu with rfl | rfl | rfl <;> rfl
theorem own_ans {w : World} {base : Nat} {A : Option Addr} {n cap : Nat} {l : List Ans} (h : Own w base 31 3 ansC (.slice A n cap) l) {i : Nat} (hi : i < l.length) :
    ∃ g x, A = some ⟨g, 0, none⟩ ∧ l[i]? = some x ∧ w.cell? ⟨g, i * 3, none⟩ = some (.bool x.1) ∧ w.cell? ⟨g, i * 3 + 1, none⟩ = some (.string x.2.1) := by
  rcases h.cases with ⟨h, rfl⟩ | ⟨g, cap, rest, e1, h2, h3, h4, h5⟩
  · simp at hi
  · injection e1 with e1 e2 e3
    have hx : l[i]? = some l[i] := List.getElem?_eq_getElem hi
    have e : ∀ j, j < 3 → w.cell? ⟨g, i * 3 + j, none⟩ = (ansC l[i])[j]? := fun j hj => by
      rw [h5.cell, List.getElem?_append_left (by rw [flat_length ansC_len]; omega)]
      exact flat_at ansC_len l i j hj hx
    exact ⟨g, l[i], e1, hx, e 0 (by omega), e 1 (by omega)⟩
def seenV (M : Mach) (s : MStep) : Ans := ((valueF M s.key).2, (valueF M s.key).1, 0)
set_option maxRecDepth 100000 in
set_option maxHeartbeats 8000000 in
theorem aborted_walk (A : Option Addr) (n cap : Nat) (xs : List MStep) (A' : Option Addr) (n' cap' : Nat) (ys : List MStep) (w : World) (hn : xs.length = n) (hm : n < 4000000000000) (hx : ∀ o ∈ xs, o.Fits) (h : SliceRd w A 5 MStep.cells xs) (hn' : ys.length = n') (hm' : n' < 4000000000000) (hy : ∀ o ∈ ys, o.Fits) (h' : SliceRd w A' 5 MStep.cells ys) :
    Calls Try.prog 8 #[.slice A n cap, .slice A' n' cap'] w fun e w' => e = .returned (.bool true) ∧ Below w.heap.size w w' := by
  have HX := Lib.hid hx
  have HN := Lib.hid hn
  have HR := Lib.hid h
  have HY := Lib.hid hy
  have HN' := Lib.hid hn'
  have HR' := Lib.hid h'
  clear hx hn h hy hn' h'
  go_enter Try.func8, Try.ntmps8
  go_wp2_with fail
  refine (anchor_any w).mono ?_
  rintro e w1 ⟨rfl, b1⟩
  have B1 := Lib.hid b1
  clear b1
  go_wp2_with fail
  refine (played_any A n cap xs _ HN.out hm HX.out (HR.out.below B1.out)).mono ?_
  rintro e w2 ⟨m, rfl, h2, b2⟩
  obtain ⟨M0, hM0⟩ : ∃ z, z = playF (machN 4 0) xs := ⟨_, rfl⟩
  rw [← hM0] at h2
  have HM0 := Lib.hid hM0
  have H2 := Lib.hid h2
  have B2 := Lib.hid b2
  have PL := Lib.hid (show MOK M0 ∧ M0.flaw = 0 ∧ M0.sess.length = 4 by rw [hM0]; exact played_len xs)
  clear h2 b2 hM0
  go_wp2_with fail
  refine (free_any w1.heap.size m M0 _ H2.out B2.out.size).mono ?_
  rintro e w3 ⟨he, h3, b3⟩
  obtain ⟨fb, hfb⟩ : ∃ z, z = freeB M0 := ⟨_, rfl⟩
  rw [← hfb] at he
  subst he
  obtain ⟨M1, hM1⟩ : ∃ z, z = freeM M0 := ⟨_, rfl⟩
  rw [← hM1] at h3
  have HM1 := Lib.hid hM1
  have HFB := Lib.hid hfb
  have H3 := Lib.hid h3
  have B3 := Lib.hid (B2.out.trans b3)
  have END := Lib.hid (show ∀ w', Below w1.heap.size w1 w' → Below w.heap.size w w' from fun w' hb => B1.out.trans (hb.mono B1.out.size))
  clear h3 b3 hM1 hfb
  cases fb with
  | false =>
    go_wp2_with fail
    all_goals go_ret
    all_goals exact ⟨rfl, END.out _ B3.out⟩
  | true =>
    have FOK := Lib.hid (show FreeOK M1 by rw [HM1.out]; exact free_ok PL.out.1 PL.out.2.2 HFB.out.symm)
    go_wp2_with fail
    refine (do_mb w1.heap.size m M1 bStep _ H3.out B3.out.size (by decide) (by decide)).mono ?_
    rintro e w4 ⟨rfl, h4, b4⟩
    obtain ⟨M2, hM2⟩ : ∃ z, z = (doF M1 bStep).1 := ⟨_, rfl⟩
    rw [← hM2] at h4
    have CU := Lib.hid (show ∃ j r, Cur M2 3 j r ∧ r.session = 3 by
      obtain ⟨q, hq⟩ := FOK.out.idle
      have hck := FOK.out.clk
      obtain ⟨-, c2, -⟩ := cur_begin hq bStep_formed rfl FOK.out.cnt (by show M1.clock + 1 + 0 ≤ 1099511627776; omega)
      rw [← hM2] at c2
      exact ⟨_, _, c2, rfl⟩)
    have H4 := Lib.hid h4
    have B4 := Lib.hid (B3.out.trans b4)
    clear h4 b4 hM2
    go_wp2_with fail
    go_loopw [38] (fun ix wr => ∃ i : Nat, i ≤ n' ∧ ix = .int .i64 i ∧ Hid (MB w1.heap.size wr m (wrF M2 (ys.take i))) ∧ Hid (Below w1.heap.size w1 wr)) (fun ix _ => n' - (intOf ix).toNat)
    case atStart => exact ⟨0, by omega, rfl, Lib.hid (by simpa [wrF] using H4.out), B4.out⟩
    case round =>
      obtain ⟨k, hk, rfl, HM, HB⟩ := hrel
      by_cases hlt : k < n'
      · obtain ⟨x, hx⟩ : ∃ x, ys[k]? = some x := ⟨_, List.getElem?_eq_getElem (by rw [HN'.out]; exact hlt)⟩
        obtain ⟨b, off, rfl, hb, hc⟩ := ((HR'.out.below B1.out).below HB.out).at hx
        have FX := Lib.hid (HY.out x (List.mem_of_getElem? hx))
        have HT := Lib.hid (show wrF M2 (ys.take (k + 1)) = (doF (wrF M2 (ys.take k)) (wG x)).1 by rw [List.take_add_one, hx, Option.toList_some, wrF_snoc])
        obtain ⟨kd, se, ga, ky, va⟩ := x
        have c0 := hc 0 (by omega)
        have c1 := hc 1 (by omega)
        have c2 := hc 2 (by omega)
        have c3 := hc 3 (by omega)
        have c4 := hc 4 (by omega)
        simp only [MStep.cells, List.getElem?_cons_zero, List.getElem?_cons_succ, Nat.add_zero] at c0 c1 c2 c3 c4
        clear hc hx hb
        have hba := (Below.refl wr.heap.size wr).alloc (Nat.le_refl _) (.cells #[.int .i64 kd, .int .i64 se, .int .i64 ga, .string ky, .string va] 29)
        have rba := RowAt.new wr 29 [.int .i64 kd, .int .i64 se, .int .i64 ga, .string ky, .string va]
        obtain ⟨M3, hM3⟩ : ∃ z, z = wrF M2 (ys.take k) := ⟨_, rfl⟩
        rw [← hM3] at HM HT
        have CU3 := Lib.hid (show MOK M3 ∧ ∃ j r, Cur M3 3 j r by
          obtain ⟨j, r, hcu, -⟩ := CU.out
          obtain ⟨a1, -, r', a2, -⟩ := wrF_cur H4.out.ok hcu (ys.take k)
          rw [← hM3] at a1 a2
          exact ⟨a1, j, r', a2⟩)
        obtain ⟨bx, hbx⟩ : ∃ z, z = wr.heap.size := ⟨_, rfl⟩
        have hfr := HM.out.fresh hba (by simp)
        rw [← hbx] at hfr
        have HMG := Lib.hid hfr
        have BA := Lib.hid (HB.out.trans (hba.mono HB.out.size))
        have rbb := rba
        rw [← hbx] at rbb
        have RX := Lib.hid rbb
        have HBX := Lib.hid hbx
        have d3 := rba.cell 3
        simp only [List.getElem?_cons_zero, List.getElem?_cons_succ] at d3
        clear hba rba hM3 hfr rbb hbx
        go_wp2_with fail
        rw [← HBX.out]
        refine (value_mb w1.heap.size m M3 ky _ HMG.out.mb FX.out.2.2.2.1.le).mono ?_
        rintro e w5 ⟨he, b5⟩
        obtain ⟨⟨vv, vo⟩, hvv⟩ : ∃ z, z = valueF M3 ky := ⟨_, rfl⟩
        rw [← hvv] at he
        subst he
        have HVV := Lib.hid hvv
        have HMG5 := Lib.hid (HMG.out.below b5)
        have RX5 := Lib.hid (RX.out.below b5)
        have B5 := Lib.hid (BA.out.trans (b5.mono BA.out.size))
        have d2 := RX5.out.cell 2
        have d3' := RX5.out.cell 3
        have d4 := RX5.out.cell 4
        simp only [List.getElem?_cons_zero, List.getElem?_cons_succ] at d2 d3' d4
        clear b5 hvv d3 c0 c1 c2 c3 c4
        go_wp2_with fail
        refine (do_mbg w1.heap.size bx m M3 (wG ⟨kd, se, ga, ky, va⟩) _ 29 _ HMG5.out RX5.out B5.out.size FX.out.2.2.2.1.le FX.out.2.2.2.2.le).mono ?_
        rintro e w6 ⟨rfl, h6, b6, rx6⟩
        rw [← HT.out] at h6
        have H6 := Lib.hid h6
        have RX6 := Lib.hid rx6
        have B6 := Lib.hid (B5.out.trans b6)
        have HVS := Lib.hid (show valueF (wrF M2 (ys.take (k + 1))) ky = (vv, vo) by
          rw [HVV.out, HT.out]
          obtain ⟨hok, j, r, hcu⟩ := CU3.out
          exact value_same hok.inv (wG_st hok hcu _).1 (doF_frame hok.inv _).2.2 ky)
        have d3 := RX6.out.cell 3
        simp only [List.getElem?_cons_zero, List.getElem?_cons_succ] at d3
        clear h6 b6 rx6 d2 d3' d4
        go_wp2_with fail
        refine (value_mb w1.heap.size m _ ky _ H6.out.mb FX.out.2.2.2.1.le).mono ?_
        rintro e w7 ⟨he, b7⟩
        rw [HVS.out] at he
        subst he
        have H7 := Lib.hid (H6.out.mb.below b7)
        have B7 := Lib.hid (B6.out.trans (b7.mono B6.out.size))
        have hq1 : (vv.toList == vv.toList) = true := by simp
        have hq2 : (vo == vo) = true := by simp
        clear b7 d3
        go_wp2_with fail
        exact ⟨⟨k + 1, by omega, rfl, H7, B7⟩, by show n' - ((k : Int) + 1).toNat < n' - (k : Int).toNat; omega⟩
      · obtain rfl : k = n' := by omega
        have hall : ys.take k = ys := List.take_of_length_le (by rw [HN'.out]; exact Nat.le_refl _)
        rw [hall] at HM
        obtain ⟨M3, hM3⟩ : ∃ z, z = wrF M2 ys := ⟨_, rfl⟩
        rw [← hM3] at HM
        have CU3 := Lib.hid (show MOK M3 ∧ ∃ j r, Cur M3 3 j r ∧ r.session = 3 by
          obtain ⟨j, r, hcu, hse⟩ := CU.out
          obtain ⟨a1, -, r', a2, a3⟩ := wrF_cur H4.out.ok hcu ys
          rw [← hM3] at a1 a2
          exact ⟨a1, j, r', a2, a3.trans hse⟩)
        obtain ⟨F, hF1, hF2⟩ := HM.out
        have HMM := Lib.hid hF1
        have HFB2 := Lib.hid hF2
        obtain ⟨wA, hwA⟩ : ∃ z, z = wr := ⟨_, rfl⟩
        rw [← hwA] at HMM HB HM ⊢
        clear hM3 hF1 hF2 hwA
        go_wp2_with fail
        go_loopw [12, 76] (fun out ix wr => ∃ (i : Nat) (Bp : Option Addr) (bc : Nat), i ≤ k ∧ ix = .int .i64 i ∧ out = .slice Bp i bc ∧ Hid (Own wr wA.heap.size 31 3 ansC (.slice Bp i bc) ((ys.take i).map (seenV M3))) ∧ Hid (Below wA.heap.size wA wr)) (fun _ ix _ => k - (intOf ix).toNat)
        case atStart => exact ⟨0, none, 0, by omega, rfl, rfl, Own.nil _ _ _ _ _, Below.refl _ _⟩
        case round =>
          obtain ⟨k2, Bp, bc, hk2, rfl, rfl, HO, HW⟩ := hrel
          by_cases hlt2 : k2 < k
          · obtain ⟨x, hx⟩ : ∃ x, ys[k2]? = some x := ⟨_, List.getElem?_eq_getElem (by rw [HN'.out]; exact hlt2)⟩
            obtain ⟨b, off, rfl, hb, hc⟩ := (((HR'.out.below B1.out).below HB.out).below HW.out).at hx
            have FX := Lib.hid (HY.out x (List.mem_of_getElem? hx))
            have HT := Lib.hid (show (ys.take (k2 + 1)).map (seenV M3) = (ys.take k2).map (seenV M3) ++ [seenV M3 x] by rw [List.take_add_one, hx, Option.toList_some, List.map_append]; rfl)
            obtain ⟨kd, se, ga, ky, va⟩ := x
            have c0 := hc 0 (by omega)
            have c1 := hc 1 (by omega)
            have c2 := hc 2 (by omega)
            have c3 := hc 3 (by omega)
            have c4 := hc 4 (by omega)
            simp only [MStep.cells, List.getElem?_cons_zero, List.getElem?_cons_succ, Nat.add_zero] at c0 c1 c2 c3 c4
            clear hc hx hb
            have hba := (Below.refl wr.heap.size wr).alloc (Nat.le_refl _) (.cells #[.int .i64 kd, .int .i64 se, .int .i64 ga, .string ky, .string va] 29)
            have rba := RowAt.new wr 29 [.int .i64 kd, .int .i64 se, .int .i64 ga, .string ky, .string va]
            have HMA := Lib.hid (show MB 0 (wr.alloc (.cells #[.int .i64 kd, .int .i64 se, .int .i64 ga, .string ky, .string va] 29)) m M3 from ⟨F, (HMM.out.below HW.out).below hba, fun _ _ => Nat.zero_le _⟩)
            have BA := Lib.hid (HW.out.trans (hba.mono HW.out.size))
            have HOA := Lib.hid (Own.below HO.out hba)
            have d3 := rba.cell 3
            simp only [List.getElem?_cons_zero, List.getElem?_cons_succ] at d3
            clear hba rba
            go_wp2_with fail
            refine (value_mb 0 m M3 ky _ HMA.out FX.out.2.2.2.1.le).mono ?_
            rintro e w5 ⟨he, b5⟩
            obtain ⟨⟨vv, vo⟩, hvv⟩ : ∃ z, z = valueF M3 ky := ⟨_, rfl⟩
            rw [← hvv] at he
            subst he
            have HVV := Lib.hid hvv
            have B5 := Lib.hid (BA.out.trans (b5.mono BA.out.size))
            have HO5 := Lib.hid (Own.below HOA.out b5)
            have hlen : ((ys.take k2).map (seenV M3)).length = k2 := by rw [List.length_map, List.length_take, HN'.out]; omega
            have HLEN := Lib.hid hlen
            have HOB := Lib.hid (HO5.out.alloc (.cells #[.bool vo, .string vv, .int .i64 0] 31))
            have RBB := Lib.hid (RowAt.new w5 31 (ansC (vo, vv, 0)))
            have HSL := Lib.hid (show ((ys.take k2).map (seenV M3)).length + 1 ≤ maxLen ∧ (((ys.take k2).map (seenV M3)).length + 1) * 32 ≤ 140737488355328 by rw [hlen]; unfold maxLen; omega)
            have HWB := Lib.hid (show wA.heap.size ≤ (w5.alloc (.cells #[.bool vo, .string vv, .int .i64 0] 31)).heap.size by have := B5.out.size; simp; omega)
            clear b5 hvv d3 c0 c1 c2 c3 c4 hlen
            go_wp2_with (first | (refine push_list ansC 31 52 31 (.agg #[.bool false, .string ⟨#[]⟩, .int .i64 0]) 3 32 Try.underlying52 (by kernel_rfl) rfl (by decide) ansC_len ansC_one _ _ (by rfl) (by rfl) wA.heap.size (.slice Bp k2 bc) ((ys.take k2).map (seenV M3)) (vo, vv, 0) (by rfl) HOB.out w5.heap.size 1 (by rfl) RBB.out HSL.out.1 HSL.out.2 HWB.out (w5.heap.size + 1) (by simp) ?_; intro g8 cap8 w8 o8 g8' l8 l9; have O8 := Lib.hid o8; have G8 := Lib.hid g8'; clear o8 g8' l8 l9))
            have hln2 := HLEN.out
            refine ⟨⟨k2 + 1, some ⟨g8, 0, none⟩, cap8, by omega, rfl, ?_, Lib.hid ?_, Lib.hid ?_⟩, by show k - ((k2 : Int) + 1).toNat < k - (k2 : Int).toNat; omega⟩
            · rw [List.length_map] at hln2
              rw [List.length_take] at hln2
              simp
              exact hln2
            · have o8 := O8.out
              rw [HLEN.out] at o8
              rw [HT.out]
              have e : seenV M3 ⟨kd, se, ga, ky, va⟩ = (vo, vv, 0) := by unfold seenV; simp only; rw [← HVV.out]
              rw [e]
              exact o8
            · exact (B5.out.alloc B5.out.size _).grown G8.out HWB.out fun k hk => (Own.base HO5.out k hk).1
          · obtain rfl : k2 = k := by omega
            rw [hall] at HO
            have HMB := Lib.hid (HMM.out.below HW.out)
            go_wp2_with fail
            refine (do_mm F m M3 (aK 3) _ HMB.out (by decide) (by decide)).mono ?_
            rintro e w5 ⟨he, F', h5, f5, t5⟩
            obtain ⟨M4, hM4⟩ : ∃ z, z = (doF M3 (aK 3)).1 := ⟨_, rfl⟩
            obtain ⟨aa, va, sa, ea, hra⟩ := ans_form (doF M3 (aK 3)).2
            rw [hra] at he
            have he2 : e = .returned (.tuple #[.agg #[.bool aa, .string va, .int .i64 sa], .int .i64 ea]) := he
            subst he2
            rw [← hM4] at h5
            have HM4 := Lib.hid hM4
            have HRA := Lib.hid hra
            have hba := (Below.refl w5.heap.size w5).alloc (Nat.le_refl _) (.cells #[.bool aa, .string va, .int .i64 sa] 31)
            have H5 := Lib.hid (show MB 0 (w5.alloc (.cells #[.bool aa, .string va, .int .i64 sa] 31)) m M4 from ⟨F', h5.below hba, fun _ _ => Nat.zero_le _⟩)
            have HO5 := Lib.hid (Own.below (Own.turn HO.out t5 fun g hg hh => by have h1 := (Own.base HO.out g hg).1; have h2 := HMM.out.lt g hh; omega) hba)
            have BT := Lib.hid (show Below w1.heap.size w1 (w5.alloc (.cells #[.bool aa, .string va, .int .i64 sa] 31)) from (HB.out.trans (HW.out.mono HB.out.size)).trans ((t5.below (B := w1.heap.size) (Nat.le_trans HB.out.size HW.out.size) fun i hi hh => by have := HFB2.out i hh; omega).trans (hba.mono (Nat.le_trans (Nat.le_trans HB.out.size HW.out.size) t5.size))))
            clear he hM4 hra hba h5 f5 t5
            obtain ⟨hok3, j3, r3, hcu3, hse3⟩ := CU3.out
            have hab := abort_law hok3 hcu3
            rw [hse3, ← HM4.out, HRA.out] at hab
            simp only at hab
            have HAB := Lib.hid hab
            have HOK3 := Lib.hid hok3
            clear hab hok3 hcu3 hse3
            by_cases ea0 : ea = 154
            · subst ea0
              go_wp2_with fail
              all_goals first | (go_ret; exact ⟨rfl, END.out _ BT.out⟩) | (exfalso; omega)
            obtain ⟨ha0, ha1, ha2, rs, xl, ha3, ha4, ha5⟩ : ea = 0 ∧ M4.st = M3.st ∧ M3.clock ≤ M4.clock ∧ ∃ rs x, runsOf M4 = rs ++ [x] ∧ x.status = 0 ∧ x.session = 3 := by
              rcases HAB.out with h | h
              · exact absurd h ea0
              · exact h
            subst ha0
            have HVS := Lib.hid (fun ky => value_same HOK3.out.inv ha1 ha2 ky)
            have HA3 := Lib.hid ha3
            have HA4 := Lib.hid ha4
            have HA5 := Lib.hid ha5
            obtain ⟨wC, hwC⟩ : ∃ z, z = w5.alloc (.cells #[.bool aa, .string va, .int .i64 sa] 31) := ⟨_, rfl⟩
            rw [← hwC] at H5 HO5 BT
            have HWC := Lib.hid hwC
            clear ea0 ha1 ha2 ha3 ha4 ha5 hwC
            go_wp2_with fail
            rw [← HWC.out]
            go_loopw [106] (fun ix wr => ∃ i : Nat, i ≤ k2 ∧ ix = .int .i64 i ∧ Hid (Below wC.heap.size wC wr)) (fun ix _ => k2 - (intOf ix).toNat)
            case atStart => exact ⟨0, by omega, rfl, Below.refl _ _⟩
            case round =>
              obtain ⟨k3, hk3, rfl, HZ⟩ := hrel
              by_cases hlt3 : k3 < k2
              · obtain ⟨x, hx⟩ : ∃ x, ys[k3]? = some x := ⟨_, List.getElem?_eq_getElem (by rw [HN'.out]; exact hlt3)⟩
                obtain ⟨b, off, rfl, hb, hc⟩ := (((HR'.out.below B1.out).below BT.out).below HZ.out).at hx
                have FX := Lib.hid (HY.out x (List.mem_of_getElem? hx))
                have hmx : (ys.map (seenV M3))[k3]? = some (seenV M3 x) := by rw [List.getElem?_map, hx]; rfl
                obtain ⟨kd, se, ga, ky, va⟩ := x
                have c0 := hc 0 (by omega)
                have c1 := hc 1 (by omega)
                have c2 := hc 2 (by omega)
                have c3 := hc 3 (by omega)
                have c4 := hc 4 (by omega)
                simp only [MStep.cells, List.getElem?_cons_zero, List.getElem?_cons_succ, Nat.add_zero] at c0 c1 c2 c3 c4
                clear hc hx hb
                have hba := (Below.refl wr.heap.size wr).alloc (Nat.le_refl _) (.cells #[.int .i64 kd, .int .i64 se, .int .i64 ga, .string ky, .string va] 29)
                have rba := RowAt.new wr 29 [.int .i64 kd, .int .i64 se, .int .i64 ga, .string ky, .string va]
                have HMA := Lib.hid ((H5.out.below HZ.out).below hba)
                have BA := Lib.hid (HZ.out.trans (hba.mono HZ.out.size))
                have d3 := rba.cell 3
                simp only [List.getElem?_cons_zero, List.getElem?_cons_succ] at d3
                have HMX := Lib.hid hmx
                clear hba rba hmx
                go_wp2_with fail
                refine (value_mb 0 m M4 ky _ HMA.out FX.out.2.2.2.1.le).mono ?_
                rintro e w7 ⟨he, b7⟩
                obtain ⟨⟨vv, vo⟩, hvv⟩ : ∃ z, z = valueF M3 ky := ⟨_, rfl⟩
                rw [HVS.out ky, ← hvv] at he
                subst he
                have B7 := Lib.hid (BA.out.trans (b7.mono BA.out.size))
                obtain ⟨gb, y, hgb, hy, y0, y1⟩ := own_ans (Own.below HO5.out B7.out) (i := k3) (by rw [List.length_map, HN'.out]; exact hlt3)
                rw [HMX.out] at hy
                injection hy with hy
                subst hy
                have e1 : seenV M3 ⟨kd, se, ga, ky, va⟩ = (vo, vv, 0) := by unfold seenV; simp only; rw [← hvv]
                rw [e1] at y0 y1
                simp only at y0 y1
                subst hgb
                have hk0 : (0 : Int) ≤ (k3 : Int) := by omega
                have hk1 : (k3 : Int) < (k2 : Int) := by omega
                have hq1 : (vv.toList == vv.toList) = true := by simp
                have hq2 : (vo == vo) = true := by simp
                clear b7 d3 c0 c1 c2 c3 c4 hvv e1
                go_wp2_with fail
                exact ⟨⟨k3 + 1, by omega, rfl, B7⟩, by show k2 - ((k3 : Int) + 1).toNat < k2 - (k3 : Int).toNat; omega⟩
              · obtain rfl : k3 = k2 := by omega
                go_wp2_with fail
                refine (log_mb 0 m M4 _ (H5.out.below HZ.out)).mono ?_
                rintro e w7 ⟨v7, ovs, rfl, l7, b7⟩
                have B7 := Lib.hid (HZ.out.trans (b7.mono HZ.out.size))
                have hrow := l7.row
                obtain ⟨A7, c7, rfl⟩ := own_forms hrow
                have hlen := l7.len
                rw [HA3.out, List.length_append, List.length_singleton] at hlen
                obtain ⟨L, hL⟩ : ∃ z, z = rs.length := ⟨_, rfl⟩
                rw [← hL] at hlen
                have hzl : ((runsOf M4).zip ovs).length = L + 1 := by rw [List.length_zip, HA3.out, List.length_append, List.length_singleton, hlen, ← hL, Nat.min_self]
                have hLb : L < 4096 := by
                  have h1 : (runsOf M4).length = M4.ends.length := by unfold runsOf; rw [List.length_map]
                  rw [HA3.out, List.length_append, List.length_singleton, ← hL] at h1
                  have h2 := H5.out.ok.ends
                  have h3 := H5.out.ok.inv.cnt
                  omega
                obtain ⟨g, ⟨rl, ol⟩, hg, hx, hc⟩ := own_log hrow (i := L) (by rw [hzl]; omega)
                have hrl : (runsOf M4)[L]? = some rl := by
                  have := List.getElem?_zip_eq_some.1 hx
                  exact this.1
                rw [HA3.out, List.getElem?_append_right (by omega), ← hL, Nat.sub_self] at hrl
                injection hrl with hrl
                have c6 := hc 6 (by omega)
                have c0 := hc 0 (by omega)
                simp only [logC, txnC, List.getElem?_cons_zero, List.getElem?_cons_succ, Nat.add_zero] at c6 c0
                rw [← hrl, HA4.out] at c6
                rw [← hrl, HA5.out] at c0
                subst hg
                rw [hzl]
                have hw1 : IntKind.i64.wrap ((L : Int) + 1 - 1) = (L : Int) := by rw [wrap_in (by omega) (by omega)]; omega
                have hw2 : ((L : Int) + 1) - 1 = (L : Int) := by omega
                have hw3 : IntKind.i64.wrap (L : Int) = (L : Int) := wrap_in (by omega) (by omega)
                have hw4 : wrap64 (L : Int) = (L : Int) := wrap64_in (by omega) (by omega)
                have hd : decide ((L : Int) + 1 > 0) = true := decide_eq_true (by omega)
                have hd2 : decide (0 < (L : Int) + 1) = true := decide_eq_true (by omega)
                have hl0 : (0 : Int) ≤ (L : Int) := by omega
                have hl1 : (L : Int) < (L : Int) + 1 := by omega
                have hl2 : L < L + 1 := by omega
                clear hrow l7 b7 hc hx hlen hzl hL
                go_wp2_with fail
                all_goals first | (go_ret; exact ⟨rfl, END.out _ (BT.out.trans (B7.out.mono BT.out.size))⟩) | (exfalso; omega)

end Go.Proofs.Ytfodagidmdbmlaa
