/- MachineOwn: the walk. -/
import Derived.Test.YtfodagidmdbmlaaNA
namespace Go.Proofs.Ytfodagidmdbmlaa
set_option linter.unusedVariables false
set_option linter.unusedSimpArgs false
open Go.RowKit

/-- The machine, and a block that is not its own. -/
def MBG (B g : Nat) (w : World) (m : Nat) (M : Mach) : Prop := ∃ F, MM F w m M ∧ (∀ i, F i → B ≤ i) ∧ ¬ F g ∧ g < w.heap.size
theorem MB.fresh {B : Nat} {w w' : World} {m : Nat} {M : Mach} (h : MB B w m M) (hb : Below w.heap.size w w') (hl : w.heap.size < w'.heap.size) : MBG B w.heap.size w' m M := by
  obtain ⟨F, h1, h2⟩ := h
  exact ⟨F, h1.below hb, h2, fun hh => absurd (h1.lt _ hh) (Nat.lt_irrefl _), hl⟩
theorem MBG.mb {B g : Nat} {w : World} {m : Nat} {M : Mach} (h : MBG B g w m M) : MB B w m M := by
  obtain ⟨F, h1, h2, -⟩ := h
  exact ⟨F, h1, h2⟩
theorem MBG.below {B g : Nat} {w w' : World} {m : Nat} {M : Mach} (h : MBG B g w m M) (hb : Below w.heap.size w w') : MBG B g w' m M := by
  obtain ⟨F, h1, h2, h3, h4⟩ := h
  exact ⟨F, h1.below hb, h2, h3, Nat.lt_of_lt_of_le h4 hb.size⟩
theorem do_mbg (B g m : Nat) (M : Mach) (s : MStep) (w : World) (T : TypeId) (cs : List Value) (h : MBG B g w m M) (hr : RowAt w g T cs) (hB : B ≤ w.heap.size) (hk : s.key.size ≤ maxLen) (hv : s.value.size ≤ maxLen) :
    Calls Try.prog 14 #[.pointer (some ⟨m, 0, none⟩), stepV s] w fun e w' => e = .returned (ansV (doF M s).2.1 (doF M s).2.2) ∧ MBG B g w' m (doF M s).1 ∧ Below B w w' ∧ RowAt w' g T cs := by
  obtain ⟨F, h1, h2, h3, h4⟩ := h
  refine (do_mm F m M s w h1 hk hv).mono fun e w' ⟨he, F', a1, a2, a3⟩ => ⟨he, ⟨F', a1, fun i hi => ?_, fun hh => ?_, Nat.lt_of_lt_of_le h4 a3.size⟩, a3.below hB fun i hi hF => ?_, hr.turn a3 h3⟩
  · rcases a2 i hi with h | h
    · exact h2 i h
    · omega
  · rcases a2 g hh with h | h
    · exact h3 h
    · omega
  · have := h2 i hF
    omega
theorem ans_form (x : (Bool × ByteArray × Int) × Int) : ∃ a b c e, x = ((a, b, c), e) := ⟨x.1.1, x.1.2.1, x.1.2.2, x.2, rfl⟩
theorem played_len (xs : List MStep) : MOK (playF (machN 4 0) xs) ∧ (playF (machN 4 0) xs).flaw = 0 ∧ (playF (machN 4 0) xs).sess.length = 4 := by
  obtain ⟨h1, h2, h3⟩ := playF_frame (machN_ok (n := 4) (by decide) 0) xs
  exact ⟨h1, h2, h3.trans (by show (List.replicate 4 _).length = 4; rw [List.length_replicate])⟩
set_option maxRecDepth 100000 in
set_option maxHeartbeats 8000000 in
theorem own_walk (A : Option Addr) (n cap : Nat) (xs : List MStep) (key value : ByteArray) (A' : Option Addr) (n' cap' : Nat) (ys : List MStep) (w : World) (hn : xs.length = n) (hm : n < 4000000000000) (hx : ∀ o ∈ xs, o.Fits) (h : SliceRd w A 5 MStep.cells xs) (hk : key.size ≤ maxLen) (hv : value.size ≤ maxLen) (hn' : ys.length = n') (hm' : n' < 4000000000000) (hy : ∀ o ∈ ys, o.Fits) (h' : SliceRd w A' 5 MStep.cells ys) :
    Calls Try.prog 5 #[.slice A n cap, .string key, .string value, .slice A' n' cap'] w fun e w' => e = .returned (.bool true) ∧ Below w.heap.size w w' := by
  have HX := Lib.hid hx
  have HN := Lib.hid hn
  have HR := Lib.hid h
  have HK := Lib.hid hk
  have HV := Lib.hid hv
  have HY := Lib.hid hy
  have HN' := Lib.hid hn'
  have HR' := Lib.hid h'
  clear hx hn h hk hv hy hn' h'
  go_enter Try.func5, Try.ntmps5
  go_wp2_with fail
  refine (anchor_any w).mono ?_
  rintro e w1 ⟨rfl, b1⟩
  have B1 := Lib.hid b1
  clear b1
  go_wp2_with fail
  refine (played_any A n cap xs _ HN.out hm HX.out (HR.out.below B1.out)).mono ?_
  rintro e w2 ⟨m, rfl, h2, b2⟩
  obtain ⟨M0, hM0⟩ : ∃ z, z = playF (machN 4 0) xs := ⟨_, rfl⟩
  rw [← hM0] at h2
  have HM0 := Lib.hid hM0
  have H2 := Lib.hid h2
  have B2 := Lib.hid b2
  have PL := Lib.hid (show MOK M0 ∧ M0.flaw = 0 ∧ M0.sess.length = 4 by rw [hM0]; exact played_len xs)
  clear h2 b2 hM0
  go_wp2_with fail
  refine (free_any w1.heap.size m M0 _ H2.out B2.out.size).mono ?_
  rintro e w3 ⟨he, h3, b3⟩
  obtain ⟨fb, hfb⟩ : ∃ z, z = freeB M0 := ⟨_, rfl⟩
  rw [← hfb] at he
  subst he
  obtain ⟨M1, hM1⟩ : ∃ z, z = freeM M0 := ⟨_, rfl⟩
  rw [← hM1] at h3
  have HM1 := Lib.hid hM1
  have HFB := Lib.hid hfb
  have H3 := Lib.hid h3
  have B3 := Lib.hid (B2.out.trans b3)
  have END := Lib.hid (show ∀ w', Below w1.heap.size w1 w' → Below w.heap.size w w' from fun w' hb => B1.out.trans (hb.mono B1.out.size))
  clear h3 b3 hM1 hfb
  cases fb with
  | false =>
    go_wp2_with fail
    all_goals go_ret
    all_goals exact ⟨rfl, END.out _ B3.out⟩
  | true =>
    by_cases k1 : key.size < 1
    · have k1' : (key.size : Int) < 1 := by omega
      go_wp2_with fail
      all_goals first | (go_ret; exact ⟨rfl, END.out _ B3.out⟩) | (exfalso; omega)
    by_cases k2 : 8 < key.size
    · have k1' : ¬ (key.size : Int) < 1 := by omega
      have k2' : 8 < (key.size : Int) := by omega
      go_wp2_with fail
      all_goals first | (go_ret; exact ⟨rfl, END.out _ B3.out⟩) | (exfalso; omega)
    by_cases k3 : 16 < value.size
    · have k1' : ¬ (key.size : Int) < 1 := by omega
      have k2' : ¬ 8 < (key.size : Int) := by omega
      have k3' : 16 < (value.size : Int) := by omega
      go_wp2_with fail
      all_goals first | (go_ret; exact ⟨rfl, END.out _ B3.out⟩) | (exfalso; omega)
    have k1' : ¬ (key.size : Int) < 1 := by omega
    have k2' : ¬ 8 < (key.size : Int) := by omega
    have k3' : ¬ 16 < (value.size : Int) := by omega
    have q1 : decide ((key.size : Int) < 1) = false := decide_eq_false k1'
    have q2 : decide (key.size < 1) = false := decide_eq_false k1
    have q3 : decide ((key.size : Int) > 8) = false := decide_eq_false k2'
    have q4 : decide (8 < key.size) = false := decide_eq_false k2
    have q5 : decide ((value.size : Int) > 16) = false := decide_eq_false k3'
    have q6 : decide (16 < value.size) = false := decide_eq_false k3
    have q7 : decide (8 < (key.size : Int)) = false := decide_eq_false k2'
    have q8 : decide (16 < (value.size : Int)) = false := decide_eq_false k3'
    have FOK := Lib.hid (show FreeOK M1 by rw [HM1.out]; exact free_ok PL.out.1 PL.out.2.2 HFB.out.symm)
    have HKB := Lib.hid (show 1 ≤ key.size ∧ key.size ≤ 8 by omega)
    have HVB := Lib.hid (show value.size ≤ 16 by omega)
    clear k1' k2' k3' k1 k2 k3
    go_wp2_with fail
    refine (do_mb w1.heap.size m M1 bStep _ H3.out B3.out.size (by decide) (by decide)).mono ?_
    rintro e w4 ⟨rfl, h4, b4⟩
    have H4 := Lib.hid h4
    have B4 := Lib.hid (B3.out.trans b4)
    clear h4 b4
    go_wp2_with fail
    refine (do_mb w1.heap.size m _ (wStep key value) _ H4.out B4.out.size HK.out HV.out).mono ?_
    rintro e w5 ⟨he, h5, b5⟩
    obtain ⟨M3, hM3⟩ : ∃ z, z = (doF (doF M1 bStep).1 (wStep key value)).1 := ⟨_, rfl⟩
    obtain ⟨a3, v3, s3, e3, hr3⟩ := ans_form (doF (doF M1 bStep).1 (wStep key value)).2
    rw [hr3] at he
    have he2 : e = .returned (.tuple #[.agg #[.bool a3, .string v3, .int .i64 s3], .int .i64 e3]) := he
    subst he2
    rw [← hM3] at h5
    have HM3 := Lib.hid hM3
    have HR3 := Lib.hid hr3
    have hba := (Below.refl w5.heap.size w5).alloc (Nat.le_refl _) (.cells #[.bool a3, .string v3, .int .i64 s3] 31)
    have H5 := Lib.hid (h5.below hba)
    have B5 := Lib.hid (B4.out.trans (b5.trans (hba.mono (Nat.le_trans B4.out.size b5.size))))
    clear he h5 b5 hba hM3 hr3
    go_wp2_with fail
    go_loopw [55] (fun ix wr => ∃ i : Nat, i ≤ n' ∧ ix = .int .i64 i ∧ Hid (MB w1.heap.size wr m (othersF M3 (ys.take i))) ∧ Hid (Below w1.heap.size w1 wr)) (fun ix _ => n' - (intOf ix).toNat)
    case atStart => exact ⟨0, by omega, rfl, H5.out, B5.out⟩
    case round =>
      obtain ⟨k, hk, rfl, HM, HB⟩ := hrel
      by_cases hlt : k < n'
      · obtain ⟨x, hx⟩ : ∃ x, ys[k]? = some x := ⟨_, List.getElem?_eq_getElem (by rw [HN'.out]; exact hlt)⟩
        obtain ⟨b, off, rfl, hb, hc⟩ := ((HR'.out.below B1.out).below HB.out).at hx
        have FX := Lib.hid (HY.out x (List.mem_of_getElem? hx))
        have HT := Lib.hid (show othersF M3 (ys.take (k + 1)) = if x.session ≠ 3 then (doF (othersF M3 (ys.take k)) x).1 else othersF M3 (ys.take k) by
          rw [List.take_add_one, hx, Option.toList_some, othersF_snoc])
        obtain ⟨kd, se, ga, ky, va⟩ := x
        have c0 := hc 0 (by omega)
        have c1 := hc 1 (by omega)
        have c2 := hc 2 (by omega)
        have c3 := hc 3 (by omega)
        have c4 := hc 4 (by omega)
        simp only [MStep.cells, List.getElem?_cons_zero, List.getElem?_cons_succ, Nat.add_zero] at c0 c1 c2 c3 c4
        clear hc hx hb
        have hba := (Below.refl wr.heap.size wr).alloc (Nat.le_refl _) (.cells #[.int .i64 kd, .int .i64 se, .int .i64 ga, .string ky, .string va] 29)
        have rba := RowAt.new wr 29 [.int .i64 kd, .int .i64 se, .int .i64 ga, .string ky, .string va]
        have HMA := Lib.hid (HM.out.below hba)
        have BA := Lib.hid (HB.out.trans (hba.mono HB.out.size))
        have d0 := rba.cell 0
        have d1 := rba.cell 1
        have d2 := rba.cell 2
        have d3 := rba.cell 3
        have d4 := rba.cell 4
        simp only [List.getElem?_cons_zero, List.getElem?_cons_succ] at d0 d1 d2 d3 d4
        clear hba rba
        by_cases hse : se = 3
        · have HT2 := Lib.hid (HT.out.trans (if_neg (fun hh => hh hse)))
          rw [hse] at HMA BA
          go_wp2_with fail
          exact ⟨⟨k + 1, by omega, rfl, by rw [HT2.out]; exact HMA.out, BA.out⟩, by show n' - ((k : Int) + 1).toNat < n' - (k : Int).toNat; omega⟩
        · have HT2 := Lib.hid (HT.out.trans (if_pos hse))
          have hse2 : (se == 3) = false := by simpa using hse
          go_wp2_with fail
          refine (do_mb w1.heap.size m _ ⟨kd, se, ga, ky, va⟩ _ HMA.out BA.out.size FX.out.2.2.2.1.le FX.out.2.2.2.2.le).mono ?_
          rintro e w5 ⟨rfl, h5, b5⟩
          have H5 := Lib.hid (show MB w1.heap.size w5 m (othersF M3 (ys.take (k + 1))) by rw [HT2.out]; exact h5)
          have B5 := Lib.hid (BA.out.trans b5)
          clear h5 b5 c0 c1 c2 c3 c4 d0 d1 d2 d3 d4
          go_wp2_with fail
          exact ⟨⟨k + 1, by omega, rfl, H5, B5⟩, by show n' - ((k : Int) + 1).toNat < n' - (k : Int).toNat; omega⟩
      · obtain rfl : k = n' := by omega
        have hall : ys.take k = ys := List.take_of_length_le (by rw [HN'.out]; exact Nat.le_refl _)
        rw [hall] at HM
        obtain ⟨M4, hM4⟩ : ∃ z, z = othersF M3 ys := ⟨_, rfl⟩
        rw [← hM4] at HM
        have HM4 := Lib.hid hM4
        clear hM4
        go_wp2_with fail
        refine (do_mb w1.heap.size m M4 (rStep key) _ HM.out HB.out.size HK.out (by show (0 : Nat) ≤ maxLen; exact Nat.zero_le _)).mono ?_
        rintro e w6 ⟨he, h6, b6⟩
        obtain ⟨a6, v6, s6, e6, hr6⟩ := ans_form (doF M4 (rStep key)).2
        rw [hr6] at he
        have he2 : e = .returned (.tuple #[.agg #[.bool a6, .string v6, .int .i64 s6], .int .i64 e6]) := he
        subst he2
        have HR6 := Lib.hid hr6
        have hba := (Below.refl w6.heap.size w6).alloc (Nat.le_refl _) (.cells #[.bool a6, .string v6, .int .i64 s6] 31)
        have rba := RowAt.new w6 31 [.bool a6, .string v6, .int .i64 s6]
        have H6 := Lib.hid (h6.fresh hba (by simp))
        have B6 := Lib.hid (HB.out.trans (b6.trans (hba.mono (Nat.le_trans HB.out.size b6.size))))
        have RX6 := Lib.hid rba
        clear he h6 b6 hba rba hr6
        obtain ⟨M5, hM5⟩ : ∃ z, z = (doF M4 (rStep key)).1 := ⟨_, rfl⟩
        rw [← hM5] at H6
        have HM5 := Lib.hid hM5
        clear hM5
        go_wp2_with fail
        refine (do_mbg w1.heap.size w6.heap.size m M5 (dStep key) _ 31 _ H6.out RX6.out B6.out.size HK.out (by show (0 : Nat) ≤ maxLen; exact Nat.zero_le _)).mono ?_
        rintro e w7 ⟨rfl, h7, b7, rx7⟩
        have RX7 := Lib.hid rx7
        obtain ⟨M6, hM6⟩ : ∃ z, z = (doF M5 (dStep key)).1 := ⟨_, rfl⟩
        rw [← hM6] at h7
        have HM6 := Lib.hid hM6
        have H7 := Lib.hid h7
        have B7 := Lib.hid (B6.out.trans b7)
        clear h7 b7 hM6 rx7
        go_wp2_with fail
        refine (do_mbg w1.heap.size w6.heap.size m M6 (rStep key) _ 31 _ H7.out RX7.out B7.out.size HK.out (by show (0 : Nat) ≤ maxLen; exact Nat.zero_le _)).mono ?_
        rintro e w8 ⟨he, h8, b8, rx8⟩
        obtain ⟨a8, v8, s8, e8, hr8⟩ := ans_form (doF M6 (rStep key)).2
        rw [hr8] at he
        have he2 : e = .returned (.tuple #[.agg #[.bool a8, .string v8, .int .i64 s8], .int .i64 e8]) := he
        subst he2
        have HR8 := Lib.hid hr8
        have hba := (Below.refl w8.heap.size w8).alloc (Nat.le_refl _) (.cells #[.bool a8, .string v8, .int .i64 s8] 31)
        have rba := RowAt.new w8 31 [.bool a8, .string v8, .int .i64 s8]
        have H8 := Lib.hid (h8.below hba)
        have B8 := Lib.hid (B7.out.trans (b8.trans (hba.mono (Nat.le_trans B7.out.size b8.size))))
        have RX8 := Lib.hid rba
        have RA8 := Lib.hid (rx8.below hba)
        clear rx8
        clear he h8 b8 hba rba hr8
        obtain ⟨l3, l4⟩ := own_law FOK.out HKB.out HVB.out ys HM3.out HM4.out HM5.out HM6.out
        rw [HR3.out] at l3
        rw [HR6.out, HR8.out] at l4
        simp only at l3 l4
        subst l3
        have z0 := RX8.out.cell 0
        have z1 := RX8.out.cell 1
        have y0 := RA8.out.cell 0
        have y1 := RA8.out.cell 1
        simp only [List.getElem?_cons_zero, List.getElem?_cons_succ] at z0 z1 y0 y1
        have HQ := Lib.hid (END.out _ B8.out)
        by_cases f6 : e6 = 154
        · subst f6
          go_wp2_with fail
          all_goals first | (go_ret; exact ⟨rfl, HQ.out⟩) | (exfalso; omega)
        have g6 : (e6 == 154) = false := by simpa using f6
        by_cases f8 : e8 = 154
        · subst f8
          go_wp2_with fail
          all_goals first | (go_ret; exact ⟨rfl, HQ.out⟩) | (exfalso; omega)
        have g8 : (e8 == 154) = false := by simpa using f8
        obtain ⟨l5, l6⟩ : ((a6, v6, s6), e6) = ((true, value, (0 : Int)), (0 : Int)) ∧ ((a8, v8, s8), e8) = ((false, (⟨#[]⟩ : ByteArray), (0 : Int)), (0 : Int)) := by
          rcases l4 with l4 | l4 | l4
          · exact absurd l4 f6
          · exact absurd l4 f8
          · exact l4
        injection l5 with l5 l5e
        injection l5 with l5a l5b
        injection l5b with l5b l5c
        injection l6 with l6 l6e
        injection l6 with l6a l6b
        injection l6b with l6b l6c
        subst l5a
        subst l5b
        subst l5c
        subst l5e
        subst l6a
        subst l6b
        subst l6c
        subst l6e
        have hqq : (v6.toList == v6.toList) = true := by simp
        go_wp2_with fail
        all_goals first | (go_ret; exact ⟨rfl, HQ.out⟩) | (exfalso; omega)

end Go.Proofs.Ytfodagidmdbmlaa
