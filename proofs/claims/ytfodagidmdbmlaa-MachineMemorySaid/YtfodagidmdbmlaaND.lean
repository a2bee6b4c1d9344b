/- MachineSnapshot: the walk. -/
import Derived.Test.YtfodagidmdbmlaaNC
namespace Go.Proofs.Ytfodagidmdbmlaa
set_option linter.unusedVariables false
set_option linter.unusedSimpArgs false
open Go.RowKit

/-- Answers are the same. -/
def ansEq (a b : Bool × ByteArray × Int) : Bool := (a.1 == b.1) && ((a.2.1.toList == b.2.1.toList) && (a.2.2 == b.2.2))
theorem eqAns (d : Nat) (w : World) (x0 y0 : Bool) (x1 y1 : ByteArray) (x2 y2 : Int) :
    (Op.equalIn (d + 2) 31 (.agg #[.bool x0, .string x1, .int .i64 x2]) (.agg #[.bool y0, .string y1, .int .i64 y2])).run Try.prog w = .ok (ansEq (x0, x1, x2) (y0, y1, y2)) w := by
  refine eqStruct_of Try.underlying31 (by kernel_rfl) ?_
  refine eqField_cons (by rfl) (by go_simp; rfl) (by go_simp; rfl) (by go_simp) ?_
  refine eqField_cons (by rfl) (by go_simp; rfl) (by go_simp; rfl) (by go_simp) ?_
  exact eqField_last (by rfl) (by go_simp; rfl) (by go_simp; rfl) (by go_simp)
attribute [local go_sem high] eqAns
theorem ansEq_self (x0 : Bool) (x1 : ByteArray) (x2 : Int) : ansEq (x0, x1, x2) (x0, x1, x2) = true := by unfold ansEq; simp
theorem take_in {l : List MStep} {i h : Nat} {x : MStep} (hx : l[i]? = some x) (hi : i < h) : (l.take (i + 1)).take h = (l.take i).take h ++ [x] := by
  have hl : (l.take i).length = i := by rw [List.length_take]; have := (List.getElem?_eq_some_iff.1 hx).1; omega
  rw [List.take_add_one, hx, Option.toList_some, List.take_append, hl, List.take_of_length_le (l := [x]) (by simp; omega)]
theorem take_out {l : List MStep} {i h : Nat} {x : MStep} (hx : l[i]? = some x) (hi : ¬ i < h) : (l.take (i + 1)).take h = (l.take i).take h := by
  have hl : (l.take i).length = i := by rw [List.length_take]; have := (List.getElem?_eq_some_iff.1 hx).1; omega
  rw [List.take_add_one, hx, Option.toList_some, List.take_append, hl, show h - i = 0 by omega, List.take_zero, List.append_nil]
theorem drop_in {l : List MStep} {i h : Nat} {x : MStep} (hx : l[i]? = some x) (hi : ¬ i < h) : (l.take (i + 1)).drop h = (l.take i).drop h ++ [x] := by
  have hl : (l.take i).length = i := by rw [List.length_take]; have := (List.getElem?_eq_some_iff.1 hx).1; omega
  rw [List.take_add_one, hx, Option.toList_some, List.drop_append, hl, show h - i = 0 by omega, List.drop_zero]
theorem drop_out {l : List MStep} {i h : Nat} {x : MStep} (hx : l[i]? = some x) (hi : i < h) : (l.take (i + 1)).drop h = (l.take i).drop h := by
  have hl : (l.take i).length = i := by rw [List.length_take]; have := (List.getElem?_eq_some_iff.1 hx).1; omega
  rw [List.drop_eq_nil_of_le (by rw [List.length_take]; omega), List.drop_eq_nil_of_le (by omega)]
set_option maxRecDepth 100000 in
set_option maxHeartbeats 8000000 in
theorem snap_walk (A : Option Addr) (n cap : Nat) (xs : List MStep) (key : ByteArray) (A' : Option Addr) (n' cap' : Nat) (ys : List MStep) (w : World) (hn : xs.length = n) (hm : n < 4000000000000) (hx : ∀ o ∈ xs, o.Fits) (h : SliceRd w A 5 MStep.cells xs) (hk : key.size ≤ maxLen) (hn' : ys.length = n') (hm' : n' < 4000000000000) (hy : ∀ o ∈ ys, o.Fits) (h' : SliceRd w A' 5 MStep.cells ys) :
    Calls Try.prog 6 #[.slice A n cap, .string key, .slice A' n' cap'] w fun e w' => e = .returned (.bool true) ∧ Below w.heap.size w w' := by
  have HX := Lib.hid hx
  have HN := Lib.hid hn
  have HR := Lib.hid h
  have HK := Lib.hid hk
  have HY := Lib.hid hy
  have HN' := Lib.hid hn'
  have HR' := Lib.hid h'
  clear hx hn h hk hy hn' h'
  go_enter Try.func6, Try.ntmps6
  go_wp2_with fail
  refine (anchor_any w).mono ?_
  rintro e w1 ⟨rfl, b1⟩
  have B1 := Lib.hid b1
  clear b1
  go_wp2_with fail
  refine (played_any A n cap xs _ HN.out hm HX.out (HR.out.below B1.out)).mono ?_
  rintro e w2 ⟨m, rfl, h2, b2⟩
  obtain ⟨M0, hM0⟩ : ∃ z, z = playF (machN 4 0) xs := ⟨_, rfl⟩
  rw [← hM0] at h2
  have HM0 := Lib.hid hM0
  have H2 := Lib.hid h2
  have B2 := Lib.hid b2
  have PL := Lib.hid (show MOK M0 ∧ M0.flaw = 0 ∧ M0.sess.length = 4 by rw [hM0]; exact played_len xs)
  clear h2 b2 hM0
  go_wp2_with fail
  refine (free_any w1.heap.size m M0 _ H2.out B2.out.size).mono ?_
  rintro e w3 ⟨he, h3, b3⟩
  obtain ⟨fb, hfb⟩ : ∃ z, z = freeB M0 := ⟨_, rfl⟩
  rw [← hfb] at he
  subst he
  obtain ⟨M1, hM1⟩ : ∃ z, z = freeM M0 := ⟨_, rfl⟩
  rw [← hM1] at h3
  have HM1 := Lib.hid hM1
  have HFB := Lib.hid hfb
  have H3 := Lib.hid h3
  have B3 := Lib.hid (B2.out.trans b3)
  have END := Lib.hid (show ∀ w', Below w1.heap.size w1 w' → Below w.heap.size w w' from fun w' hb => B1.out.trans (hb.mono B1.out.size))
  clear h3 b3 hM1 hfb
  cases fb with
  | false =>
    go_wp2_with fail
    all_goals go_ret
    all_goals exact ⟨rfl, END.out _ B3.out⟩
  | true =>
    by_cases k1 : key.size < 1
    · have k1' : (key.size : Int) < 1 := by omega
      go_wp2_with fail
      all_goals first | (go_ret; exact ⟨rfl, END.out _ B3.out⟩) | (exfalso; omega)
    by_cases k2 : 8 < key.size
    · have k1' : ¬ (key.size : Int) < 1 := by omega
      have k2' : 8 < (key.size : Int) := by omega
      go_wp2_with fail
      all_goals first | (go_ret; exact ⟨rfl, END.out _ B3.out⟩) | (exfalso; omega)
    have k1' : ¬ (key.size : Int) < 1 := by omega
    have k2' : ¬ 8 < (key.size : Int) := by omega
    have q1 : decide ((key.size : Int) < 1) = false := decide_eq_false k1'
    have q2 : decide (key.size < 1) = false := decide_eq_false k1
    have q3 : decide ((key.size : Int) > 8) = false := decide_eq_false k2'
    have q4 : decide (8 < key.size) = false := decide_eq_false k2
    have q7 : decide (8 < (key.size : Int)) = false := decide_eq_false k2'
    have FOK := Lib.hid (show FreeOK M1 by rw [HM1.out]; exact free_ok PL.out.1 PL.out.2.2 HFB.out.symm)
    have FFL := Lib.hid (show M1.flaw = 0 by rw [HM1.out]; exact (freeM_frame PL.out.1).2.1.trans PL.out.2.1)
    have HKB := Lib.hid (show 1 ≤ key.size ∧ key.size ≤ 8 by omega)
    clear k1' k2' k1 k2
    go_wp2_with fail
    refine (value_mb w1.heap.size m M1 key _ H3.out HK.out).mono ?_
    rintro e w3' ⟨he, b3'⟩
    obtain ⟨⟨vv, vo⟩, hvv⟩ : ∃ z, z = valueF M1 key := ⟨_, rfl⟩
    rw [← hvv] at he
    subst he
    have HVV := Lib.hid hvv
    have H3' := Lib.hid (H3.out.below b3')
    have B3' := Lib.hid (B3.out.trans (b3'.mono B3.out.size))
    clear b3' hvv
    go_wp2_with fail
    refine (do_mb w1.heap.size m M1 bStep _ H3'.out B3'.out.size (by decide) (by decide)).mono ?_
    rintro e w4 ⟨rfl, h4, b4⟩
    obtain ⟨M2, hM2⟩ : ∃ z, z = (doF M1 bStep).1 := ⟨_, rfl⟩
    rw [← hM2] at h4
    have HM2 := Lib.hid hM2
    have H4 := Lib.hid h4
    have B4 := Lib.hid (B3'.out.trans b4)
    clear h4 b4 hM2
    obtain ⟨hf, hhf⟩ : ∃ z, z = n' / 2 := ⟨_, rfl⟩
    have HHF := Lib.hid hhf
    have hhi : (hf : Int) = (n' : Int) / 2 := by omega
    clear hhf
    go_wp2_with fail
    go_loopw [48] (fun ix wr => ∃ i : Nat, i ≤ n' ∧ ix = .int .i64 i ∧ Hid (MB w1.heap.size wr m (othersF M2 ((ys.take i).take hf))) ∧ Hid (Below w1.heap.size w1 wr)) (fun ix _ => n' - (intOf ix).toNat)
    case atStart => exact ⟨0, by omega, rfl, Lib.hid (by simpa [othersF] using H4.out), B4.out⟩
    case round =>
      obtain ⟨k, hk, rfl, HM, HB⟩ := hrel
      by_cases hlt : k < n'
      · obtain ⟨x, hx⟩ : ∃ x, ys[k]? = some x := ⟨_, List.getElem?_eq_getElem (by rw [HN'.out]; exact hlt)⟩
        obtain ⟨b, off, rfl, hb, hc⟩ := ((HR'.out.below B1.out).below HB.out).at hx
        have FX := Lib.hid (HY.out x (List.mem_of_getElem? hx))
        have HTI := Lib.hid (fun hh : k < hf => take_in hx hh)
        have HTO := Lib.hid (fun hh : ¬ k < hf => take_out hx hh)
        obtain ⟨kd, se, ga, ky, va⟩ := x
        have c0 := hc 0 (by omega)
        have c1 := hc 1 (by omega)
        have c2 := hc 2 (by omega)
        have c3 := hc 3 (by omega)
        have c4 := hc 4 (by omega)
        simp only [MStep.cells, List.getElem?_cons_zero, List.getElem?_cons_succ, Nat.add_zero] at c0 c1 c2 c3 c4
        clear hc hx hb
        have hba := (Below.refl wr.heap.size wr).alloc (Nat.le_refl _) (.cells #[.int .i64 kd, .int .i64 se, .int .i64 ga, .string ky, .string va] 29)
        have rba := RowAt.new wr 29 [.int .i64 kd, .int .i64 se, .int .i64 ga, .string ky, .string va]
        have d0 := rba.cell 0
        have d1 := rba.cell 1
        have d2 := rba.cell 2
        have d3 := rba.cell 3
        have d4 := rba.cell 4
        simp only [List.getElem?_cons_zero, List.getElem?_cons_succ] at d0 d1 d2 d3 d4
        have HMA := Lib.hid (HM.out.below hba)
        have BA := Lib.hid (HB.out.trans (hba.mono HB.out.size))
        clear hba rba
        by_cases hse : se = 3
        · have HT2 := Lib.hid (show othersF M2 ((ys.take (k + 1)).take hf) = othersF M2 ((ys.take k).take hf) by
            by_cases hkh : k < hf
            · rw [HTI.out hkh, othersF_snoc]; exact if_neg (fun hh => hh hse)
            · rw [HTO.out hkh])
          rw [hse] at HMA BA
          go_wp2_with fail
          exact ⟨⟨k + 1, by omega, rfl, by rw [HT2.out]; exact HMA.out, BA.out⟩, by show n' - ((k : Int) + 1).toNat < n' - (k : Int).toNat; omega⟩
        have hse2 : (se == 3) = false := by simpa using hse
        by_cases hkh : k < hf
        · have hd : decide ((k : Int) < (n' : Int) / 2) = true := decide_eq_true (by omega)
          have HT2 := Lib.hid (show othersF M2 ((ys.take (k + 1)).take hf) = (doF (othersF M2 ((ys.take k).take hf)) ⟨kd, se, ga, ky, va⟩).1 by rw [HTI.out hkh, othersF_snoc]; exact if_pos hse)
          go_wp2_with fail
          refine (do_mb w1.heap.size m _ ⟨kd, se, ga, ky, va⟩ _ HMA.out BA.out.size FX.out.2.2.2.1.le FX.out.2.2.2.2.le).mono ?_
          rintro e w5 ⟨rfl, h5, b5⟩
          have H5 := Lib.hid (show MB w1.heap.size w5 m (othersF M2 ((ys.take (k + 1)).take hf)) by rw [HT2.out]; exact h5)
          have B5 := Lib.hid (BA.out.trans b5)
          clear h5 b5 c0 c1 c2 c3 c4 d0 d1 d2 d3 d4
          go_wp2_with fail
          exact ⟨⟨k + 1, by omega, rfl, H5, B5⟩, by show n' - ((k : Int) + 1).toNat < n' - (k : Int).toNat; omega⟩
        · have hd : decide ((k : Int) < (n' : Int) / 2) = false := decide_eq_false (by omega)
          have HT2 := Lib.hid (show othersF M2 ((ys.take (k + 1)).take hf) = othersF M2 ((ys.take k).take hf) by rw [HTO.out hkh])
          go_wp2_with fail
          exact ⟨⟨k + 1, by omega, rfl, by rw [HT2.out]; exact HMA.out, BA.out⟩, by show n' - ((k : Int) + 1).toNat < n' - (k : Int).toNat; omega⟩
      · obtain rfl : k = n' := by omega
        have hall : ys.take k = ys := List.take_of_length_le (by rw [HN'.out]; exact Nat.le_refl _)
        rw [hall] at HM
        obtain ⟨M3, hM3⟩ : ∃ z, z = othersF M2 (ys.take hf) := ⟨_, rfl⟩
        rw [← hM3] at HM
        have HM3 := Lib.hid hM3
        clear hM3
        go_wp2_with fail
        refine (do_mb w1.heap.size m M3 (rStep key) _ HM.out HB.out.size HK.out (by show (0 : Nat) ≤ maxLen; exact Nat.zero_le _)).mono ?_
        rintro e w6 ⟨he, h6, b6⟩
        obtain ⟨a6, v6, s6, e6, hr6⟩ := ans_form (doF M3 (rStep key)).2
        rw [hr6] at he
        have he2 : e = .returned (.tuple #[.agg #[.bool a6, .string v6, .int .i64 s6], .int .i64 e6]) := he
        subst he2
        obtain ⟨M4, hM4⟩ : ∃ z, z = (doF M3 (rStep key)).1 := ⟨_, rfl⟩
        rw [← hM4] at h6
        have HM4 := Lib.hid hM4
        have HR6 := Lib.hid hr6
        obtain ⟨g6, hg6⟩ : ∃ z, z = w6.heap.size := ⟨_, rfl⟩
        have hba := (Below.refl w6.heap.size w6).alloc (Nat.le_refl _) (.cells #[.bool a6, .string v6, .int .i64 s6] 31)
        have rba := RowAt.new w6 31 [.bool a6, .string v6, .int .i64 s6]
        have h6' := h6.fresh hba (by simp)
        rw [← hg6] at rba h6'
        have H6 := Lib.hid h6'
        have B6 := Lib.hid (HB.out.trans (b6.trans (hba.mono (Nat.le_trans HB.out.size b6.size))))
        have RX6 := Lib.hid rba
        have HG6 := Lib.hid hg6
        clear he h6 h6' b6 hba rba hr6 hM4 hg6
        go_wp2_with fail
        rw [← HG6.out]
        go_loopw [76] (fun ix wr => ∃ i : Nat, i ≤ k ∧ ix = .int .i64 i ∧ Hid (MBG w1.heap.size g6 wr m (othersF M4 ((ys.take i).drop hf))) ∧ Hid (RowAt wr g6 31 [.bool a6, .string v6, .int .i64 s6]) ∧ Hid (Below w1.heap.size w1 wr)) (fun ix _ => k - (intOf ix).toNat)
        case atStart => exact ⟨0, by omega, rfl, Lib.hid (by simpa [othersF] using H6.out), RX6.out, B6.out⟩
        case round =>
          clear H6 RX6 B6 HM HB
          obtain ⟨k2, hk2, rfl, HM, HRX, HB⟩ := hrel
          by_cases hlt2 : k2 < k
          · obtain ⟨x, hx⟩ : ∃ x, ys[k2]? = some x := ⟨_, List.getElem?_eq_getElem (by rw [HN'.out]; exact hlt2)⟩
            obtain ⟨b, off, rfl, hb, hc⟩ := ((HR'.out.below B1.out).below HB.out).at hx
            have FX := Lib.hid (HY.out x (List.mem_of_getElem? hx))
            have HTI := Lib.hid (fun hh : ¬ k2 < hf => drop_in hx hh)
            have HTO := Lib.hid (fun hh : k2 < hf => drop_out hx hh)
            obtain ⟨kd, se, ga, ky, va⟩ := x
            have c0 := hc 0 (by omega)
            have c1 := hc 1 (by omega)
            have c2 := hc 2 (by omega)
            have c3 := hc 3 (by omega)
            have c4 := hc 4 (by omega)
            simp only [MStep.cells, List.getElem?_cons_zero, List.getElem?_cons_succ, Nat.add_zero] at c0 c1 c2 c3 c4
            clear hc hx hb
            have hba := (Below.refl wr.heap.size wr).alloc (Nat.le_refl _) (.cells #[.int .i64 kd, .int .i64 se, .int .i64 ga, .string ky, .string va] 29)
            have rba := RowAt.new wr 29 [.int .i64 kd, .int .i64 se, .int .i64 ga, .string ky, .string va]
            have d0 := rba.cell 0
            have d1 := rba.cell 1
            have d2 := rba.cell 2
            have d3 := rba.cell 3
            have d4 := rba.cell 4
            simp only [List.getElem?_cons_zero, List.getElem?_cons_succ] at d0 d1 d2 d3 d4
            have HMA := Lib.hid (HM.out.below hba)
            have HRA := Lib.hid (HRX.out.below hba)
            have BA := Lib.hid (HB.out.trans (hba.mono HB.out.size))
            clear hba rba
            by_cases hse : se = 3
            · have HT2 := Lib.hid (show othersF M4 ((ys.take (k2 + 1)).drop hf) = othersF M4 ((ys.take k2).drop hf) by
                by_cases hkh : k2 < hf
                · rw [HTO.out hkh]
                · rw [HTI.out hkh, othersF_snoc]; exact if_neg (fun hh => hh hse))
              rw [hse] at HMA BA HRA
              go_wp2_with fail
              exact ⟨⟨k2 + 1, by omega, rfl, by rw [HT2.out]; exact HMA.out, HRA.out, BA.out⟩, by show k - ((k2 : Int) + 1).toNat < k - (k2 : Int).toNat; omega⟩
            have hse2 : (se == 3) = false := by simpa using hse
            by_cases hkh : k2 < hf
            · have hd : decide ((k2 : Int) ≥ (k : Int) / 2) = false := decide_eq_false (by omega)
              have HT2 := Lib.hid (show othersF M4 ((ys.take (k2 + 1)).drop hf) = othersF M4 ((ys.take k2).drop hf) by rw [HTO.out hkh])
              go_wp2_with fail
              exact ⟨⟨k2 + 1, by omega, rfl, by rw [HT2.out]; exact HMA.out, HRA.out, BA.out⟩, by show k - ((k2 : Int) + 1).toNat < k - (k2 : Int).toNat; omega⟩
            · have hd : decide ((k2 : Int) ≥ (k : Int) / 2) = true := decide_eq_true (by omega)
              have HT2 := Lib.hid (show othersF M4 ((ys.take (k2 + 1)).drop hf) = (doF (othersF M4 ((ys.take k2).drop hf)) ⟨kd, se, ga, ky, va⟩).1 by rw [HTI.out hkh, othersF_snoc]; exact if_pos hse)
              go_wp2_with fail
              refine (do_mbg w1.heap.size g6 m _ ⟨kd, se, ga, ky, va⟩ _ 31 _ HMA.out HRA.out BA.out.size FX.out.2.2.2.1.le FX.out.2.2.2.2.le).mono ?_
              rintro e w7 ⟨rfl, h7, b7, rx7⟩
              have H7 := Lib.hid (show MBG w1.heap.size g6 w7 m (othersF M4 ((ys.take (k2 + 1)).drop hf)) by rw [HT2.out]; exact h7)
              have B7 := Lib.hid (BA.out.trans b7)
              have RX7 := Lib.hid rx7
              clear h7 b7 rx7 c0 c1 c2 c3 c4 d0 d1 d2 d3 d4
              go_wp2_with fail
              exact ⟨⟨k2 + 1, by omega, rfl, H7, RX7, B7⟩, by show k - ((k2 : Int) + 1).toNat < k - (k2 : Int).toNat; omega⟩
          · obtain rfl : k2 = k := by omega
            rw [hall] at HM
            obtain ⟨M5, hM5⟩ : ∃ z, z = othersF M4 (ys.drop hf) := ⟨_, rfl⟩
            rw [← hM5] at HM
            have HM5 := Lib.hid hM5
            clear hM5
            go_wp2_with fail
            refine (do_mbg w1.heap.size g6 m M5 (rStep key) _ 31 _ HM.out HRX.out HB.out.size HK.out (by show (0 : Nat) ≤ maxLen; exact Nat.zero_le _)).mono ?_
            rintro e w8 ⟨he, h8, b8, rx8⟩
            obtain ⟨a8, v8, s8, e8, hr8⟩ := ans_form (doF M5 (rStep key)).2
            rw [hr8] at he
            have he2 : e = .returned (.tuple #[.agg #[.bool a8, .string v8, .int .i64 s8], .int .i64 e8]) := he
            subst he2
            have HR8 := Lib.hid hr8
            have hba := (Below.refl w8.heap.size w8).alloc (Nat.le_refl _) (.cells #[.bool a8, .string v8, .int .i64 s8] 31)
            have rba := RowAt.new w8 31 [.bool a8, .string v8, .int .i64 s8]
            have B8 := Lib.hid (HB.out.trans (b8.trans (hba.mono (Nat.le_trans HB.out.size b8.size))))
            have RX8 := Lib.hid rba
            have RA8 := Lib.hid (rx8.below hba)
            clear rx8 he h8 b8 hba rba hr8
            have l4 := snap_law FOK.out FFL.out HKB.out (ys.take hf) (ys.drop hf) (M3 := M3) (M4 := M4) (M5 := M5) (by rw [← HM2.out]; exact HM3.out) HM4.out HM5.out
            rw [HR6.out, HR8.out, ← HVV.out] at l4
            simp only at l4
            have z0 := RX8.out.cell 0
            have z1 := RX8.out.cell 1
            have z2 := RX8.out.cell 2
            have y0 := RA8.out.cell 0
            have y1 := RA8.out.cell 1
            have y2 := RA8.out.cell 2
            simp only [List.getElem?_cons_zero, List.getElem?_cons_succ] at z0 z1 z2 y0 y1 y2
            have HQ := Lib.hid (END.out _ B8.out)
            by_cases f6 : e6 = 154
            · subst f6
              go_wp2_with fail
              all_goals first | (go_ret; exact ⟨rfl, HQ.out⟩) | (exfalso; omega)
            have g6' : (e6 == 154) = false := by simpa using f6
            by_cases f8 : e8 = 154
            · subst f8
              go_wp2_with fail
              all_goals first | (go_ret; exact ⟨rfl, HQ.out⟩) | (exfalso; omega)
            have g8 : (e8 == 154) = false := by simpa using f8
            obtain ⟨l5, l6⟩ : ((a6, v6, s6), e6) = ((vo, vv, (0 : Int)), (0 : Int)) ∧ ((a8, v8, s8), e8) = ((vo, vv, (0 : Int)), (0 : Int)) := by
              rcases l4 with l4 | l4 | l4
              · exact absurd l4 f6
              · exact absurd l4 f8
              · exact l4
            injection l5 with l5 l5e
            injection l5 with l5a l5b
            injection l5b with l5b l5c
            injection l6 with l6 l6e
            injection l6 with l6a l6b
            injection l6b with l6b l6c
            subst l5a
            subst l5b
            subst l5c
            subst l5e
            subst l6a
            subst l6b
            subst l6c
            subst l6e
            have hqq : ansEq (a8, v8, 0) (a8, v8, 0) = true := ansEq_self _ _ _
            have hq3 : (a8 == a8) = true := by simp
            have hq4 : (v8.toList == v8.toList) = true := by simp
            go_wp2_with fail
            all_goals first | (go_ret; exact ⟨rfl, HQ.out⟩) | (exfalso; omega)

end Go.Proofs.Ytfodagidmdbmlaa
