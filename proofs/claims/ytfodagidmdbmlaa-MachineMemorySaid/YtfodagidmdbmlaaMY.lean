/- Steps handed in; played, free, anchor. -/
import Derived.Test.YtfodagidmdbmlaaML
import Derived.Test.YtfodagidmdbmlaaOpen
namespace Go.Proofs.Ytfodagidmdbmlaa
set_option linter.unusedVariables false
set_option linter.unusedSimpArgs false
open Go.RowKit Go.ChangeShapes Go.WideShapes Go.Deep

structure okStr (s : ByteArray) : Prop where
  le : s.size ≤ maxLen
theorem flat_key {P : Program} {t : TypeId} (ht : P.underlying t = some .string) : Flat P t cellS okStr := by
  intro H enc w base spare held fuel cs x h
  obtain ⟨s, rfl, -, hs⟩ := DataW.trod_string ht h
  exact ⟨s, rfl, ⟨hs⟩⟩
theorem MStep.len (o : MStep) : o.cells.length = 5 := rfl
theorem cellsOf29 : Try.prog.cellsOf 29 = 5 := by kernel_rfl
theorem cellsOf3 : Try.prog.cellsOf 3 = 1 := by kernel_rfl
theorem cellsOf9 : Try.prog.cellsOf 9 = 1 := by kernel_rfl
def MStep.Fits (a : MStep) : Prop := inI64 a.kind ∧ inI64 a.session ∧ inI64 a.gap ∧ okStr a.key ∧ okStr a.value
set_option maxRecDepth 10000 in
theorem flat_step : Flat Try.prog 29 MStep.cells MStep.Fits := by
  intro H enc w base spare held fuel cs x h
  have hl := flat_cells_length Try.underlying29 h
  rw [cellsOf29] at hl
  obtain ⟨a0, e0, g0⟩ := flat_field Try.underlying29 h 0 _ rfl (flat_int Try.underlying3)
  obtain ⟨a1, e1, g1⟩ := flat_field Try.underlying29 h 1 _ rfl (flat_int Try.underlying3)
  obtain ⟨a2, e2, g2⟩ := flat_field Try.underlying29 h 2 _ rfl (flat_int Try.underlying3)
  obtain ⟨a3, e3, g3⟩ := flat_field Try.underlying29 h 3 _ rfl (flat_key Try.underlying9)
  obtain ⟨a4, e4, g4⟩ := flat_field Try.underlying29 h 4 _ rfl (flat_key Try.underlying9)
  match cs, hl with
  | [c0, c1, c2, c3, c4], _ =>
    simp [MStep.cells, cellI, cellS, cellsOf3, cellsOf9] at e0 e1 e2 e3 e4
    subst e0
    subst e1
    subst e2
    subst e3
    subst e4
    exact ⟨⟨a0, a1, a2, a3, a4⟩, rfl, ⟨g0, g1, g2, g3, g4⟩⟩
/-- Steps, one behind the other. -/
def playF (M : Mach) (xs : List MStep) : Mach := xs.foldl (fun M s => (doF M s).1) M
theorem playF_snoc (M : Mach) (xs : List MStep) (s : MStep) : playF M (xs ++ [s]) = (doF (playF M xs) s).1 := by
  unfold playF
  rw [List.foldl_append]
  rfl
/-- Block m is a machine; its blocks are numbered from B on. -/
def MB (B : Nat) (w : World) (m : Nat) (M : Mach) : Prop := ∃ F, MM F w m M ∧ ∀ i, F i → B ≤ i
theorem MB.below {B : Nat} {w w' : World} {m : Nat} {M : Mach} (h : MB B w m M) (hb : Below w.heap.size w w') : MB B w' m M := by
  obtain ⟨F, h1, h2⟩ := h
  exact ⟨F, h1.below hb, h2⟩
theorem MB.ok {B : Nat} {w : World} {m : Nat} {M : Mach} (h : MB B w m M) : MOK M := by
  obtain ⟨F, h1, h2⟩ := h
  exact h1.ok
theorem do_mb (B m : Nat) (M : Mach) (s : MStep) (w : World) (h : MB B w m M) (hB : B ≤ w.heap.size) (hk : s.key.size ≤ maxLen) (hv : s.value.size ≤ maxLen) :
    Calls Try.prog 14 #[.pointer (some ⟨m, 0, none⟩), stepV s] w fun e w' => e = .returned (ansV (doF M s).2.1 (doF M s).2.2) ∧ MB B w' m (doF M s).1 ∧ Below B w w' := by
  obtain ⟨F, h1, h2⟩ := h
  refine (do_mm F m M s w h1 hk hv).mono fun e w' ⟨he, F', a1, a2, a3⟩ => ⟨he, ⟨F', a1, fun i hi => ?_⟩, a3.below hB fun i hi hF => ?_⟩
  · rcases a2 i hi with h | h
    · exact h2 i h
    · omega
  · have := h2 i hF
    omega
theorem value_mb (B m : Nat) (M : Mach) (k : ByteArray) (w : World) (h : MB B w m M) (hk : k.size ≤ maxLen) :
    Calls Try.prog 19 #[.pointer (some ⟨m, 0, none⟩), .string k] w fun e w' => e = .returned (.tuple #[.string (valueF M k).1, .bool (valueF M k).2]) ∧ Below w.heap.size w w' := by
  obtain ⟨F, h1, h2⟩ := h
  exact value_mm F m M k w h1 hk
theorem active_mb (B m : Nat) (M : Mach) (s : Int) (w : World) (h : MB B w m M) :
    Calls Try.prog 17 #[.pointer (some ⟨m, 0, none⟩), .int .i64 s] w fun e w' => e = .returned (.bool (activeF M s)) ∧ w' = w := by
  obtain ⟨F, h1, h2⟩ := h
  exact active_mm F m M s w h1
theorem now_mb (B m : Nat) (M : Mach) (w : World) (h : MB B w m M) : Calls Try.prog 30 #[.pointer (some ⟨m, 0, none⟩)] w fun e w' => e = .returned (.int .i64 M.clock) ∧ w' = w := by
  obtain ⟨F, h1, h2⟩ := h
  exact now_mm F m M w h1
theorem log_mb (B m : Nat) (M : Mach) (w : World) (h : MB B w m M) : Calls Try.prog 22 #[.pointer (some ⟨m, 0, none⟩)] w fun e w' => ∃ v ovs, e = .returned v ∧ LogAt w.heap.size w' v (runsOf M) ovs ∧ Below w.heap.size w w' := by
  obtain ⟨F, ⟨gs, p, lv, pl, Fs, N, h1, h2, h3, rfl⟩, -⟩ := h
  exact log_any m M gs p lv pl Fs N w h1 h3
def freeStep : MStep := ⟨6, 3, 0, ⟨#[]⟩, ⟨#[]⟩⟩
def freeM (M : Mach) : Mach := if activeF M 3 = true then (doF M freeStep).1 else M
def freeB (M : Mach) : Bool := !activeF (freeM M) 3 && (decide ((freeM M).clock < 549755813888) && decide (((freeM M).ends.length : Int) < 4000))
set_option maxRecDepth 100000 in
set_option maxHeartbeats 4000000 in
theorem free_any (B m : Nat) (M : Mach) (w : World) (h : MB B w m M) (hB : B ≤ w.heap.size) :
    Calls Try.prog 25 #[.pointer (some ⟨m, 0, none⟩)] w fun e w' => e = .returned (.bool (freeB M)) ∧ MB B w' m (freeM M) ∧ Below B w w' := by
  have H := Lib.hid h
  clear h
  obtain ⟨fb, hfb⟩ : ∃ z, z = freeB M := ⟨_, rfl⟩
  obtain ⟨fm, hfm⟩ : ∃ z, z = freeM M := ⟨_, rfl⟩
  rw [← hfb, ← hfm]
  have HFB := Lib.hid hfb
  have HFM := Lib.hid hfm
  clear hfb hfm
  go_enter Try.func25, Try.ntmps25
  go_wp2_with fail
  refine (active_mb B m M 3 w H.out).mono ?_
  rintro e w1 ⟨he, rfl⟩
  obtain ⟨ac, hac⟩ : ∃ z, z = activeF M 3 := ⟨_, rfl⟩
  rw [← hac] at he
  subst he
  have HAC := Lib.hid hac
  clear hac
  cases ac with
  | true =>
    have HF := Lib.hid (show fm = (doF M freeStep).1 by rw [HFM.out]; unfold freeM; rw [if_pos HAC.out.symm])
    go_wp2_with fail
    refine (do_mb B m M freeStep _ H.out hB (by decide) (by decide)).mono ?_
    rintro e w2 ⟨rfl, h2, b2⟩
    rw [← HF.out] at h2
    have H2 := Lib.hid h2
    have B2 := Lib.hid b2
    clear h2 b2
    obtain ⟨c3, hc3⟩ : ∃ z, z = activeF fm 3 := ⟨_, rfl⟩
    have HC3 := Lib.hid hc3
    clear hc3
    go_wp2_with fail
    refine (active_mb B m fm 3 _ H2.out).mono ?_
    rintro e w3 ⟨he, rfl⟩
    rw [← HC3.out] at he
    subst he
    have HFB2 := Lib.hid (show fb = (!c3 && (decide (fm.clock < 549755813888) && decide ((fm.ends.length : Int) < 4000))) by rw [HFB.out]; unfold freeB; rw [← HFM.out, ← HC3.out])
    cases c3 with
    | true =>
      go_wp2_with fail
      go_ret
      exact ⟨by rw [HFB2.out]; rfl, H2.out, B2.out⟩
    | false =>
      go_wp2_with fail
      refine (now_mb B m fm _ H2.out).mono ?_
      rintro e w4 ⟨rfl, rfl⟩
      by_cases hlt : fm.clock < 549755813888
      · have hd : decide (fm.clock < 549755813888) = true := decide_eq_true hlt
        go_wp2_with fail
        refine (log_mb B m fm _ H2.out).mono ?_
        rintro e w5 ⟨v, ovs, rfl, hl5, b5⟩
        obtain ⟨A, c, rfl⟩ := own_forms hl5.row
        have hz : ((runsOf fm).zip ovs).length = fm.ends.length := by
          rw [List.length_zip, hl5.len, Nat.min_self]
          unfold runsOf
          rw [List.length_map]
        obtain ⟨ln, hln⟩ : ∃ z, z = fm.ends.length := ⟨_, rfl⟩
        rw [hz, ← hln]
        have HLN := Lib.hid hln
        have H5 := Lib.hid (H2.out.below b5)
        have B5 := Lib.hid (B2.out.trans (b5.mono (Nat.le_trans hB B2.out.size)))
        clear hl5 b5 hz hln
        go_wp2_with fail
        go_ret
        exact ⟨by rw [HFB2.out, hd, ← HLN.out]; rfl, H5.out, B5.out⟩
      · have hd : decide (fm.clock < 549755813888) = false := decide_eq_false hlt
        go_wp2_with fail
        go_ret
        exact ⟨by rw [HFB2.out, hd]; rfl, H2.out, B2.out⟩
  | false =>
    have HF := Lib.hid (show fm = M by rw [HFM.out]; unfold freeM; rw [← HAC.out]; rfl)
    have H2 := Lib.hid (show MB B w1 m fm by rw [HF.out]; exact H.out)
    have B2 := Lib.hid (Below.refl B w1)
    obtain ⟨c3, hc3⟩ : ∃ z, z = activeF fm 3 := ⟨_, rfl⟩
    have HC3 := Lib.hid hc3
    clear hc3
    go_wp2_with fail
    refine (active_mb B m fm 3 _ H2.out).mono ?_
    rintro e w3 ⟨he, rfl⟩
    rw [← HC3.out] at he
    subst he
    have HFB2 := Lib.hid (show fb = (!c3 && (decide (fm.clock < 549755813888) && decide ((fm.ends.length : Int) < 4000))) by rw [HFB.out]; unfold freeB; rw [← HFM.out, ← HC3.out])
    cases c3 with
    | true =>
      go_wp2_with fail
      go_ret
      exact ⟨by rw [HFB2.out]; rfl, H2.out, B2.out⟩
    | false =>
      go_wp2_with fail
      refine (now_mb B m fm _ H2.out).mono ?_
      rintro e w4 ⟨rfl, rfl⟩
      by_cases hlt : fm.clock < 549755813888
      · have hd : decide (fm.clock < 549755813888) = true := decide_eq_true hlt
        go_wp2_with fail
        refine (log_mb B m fm _ H2.out).mono ?_
        rintro e w5 ⟨v, ovs, rfl, hl5, b5⟩
        obtain ⟨A, c, rfl⟩ := own_forms hl5.row
        have hz : ((runsOf fm).zip ovs).length = fm.ends.length := by
          rw [List.length_zip, hl5.len, Nat.min_self]
          unfold runsOf
          rw [List.length_map]
        obtain ⟨ln, hln⟩ : ∃ z, z = fm.ends.length := ⟨_, rfl⟩
        rw [hz, ← hln]
        have HLN := Lib.hid hln
        have H5 := Lib.hid (H2.out.below b5)
        have B5 := Lib.hid (B2.out.trans (b5.mono hB))
        clear hl5 b5 hz hln
        go_wp2_with fail
        go_ret
        exact ⟨by rw [HFB2.out, hd, ← HLN.out]; rfl, H5.out, B5.out⟩
      · have hd : decide (fm.clock < 549755813888) = false := decide_eq_false hlt
        go_wp2_with fail
        go_ret
        exact ⟨by rw [HFB2.out, hd]; rfl, H2.out, B2.out⟩

set_option maxRecDepth 100000 in
set_option maxHeartbeats 4000000 in
theorem played_any (A : Option Addr) (n cap : Nat) (xs : List MStep) (w : World) (hn : xs.length = n) (hm : n < 4000000000000) (hx : ∀ o ∈ xs, o.Fits) (h : SliceRd w A 5 MStep.cells xs) :
    Calls Try.prog 24 #[.slice A n cap] w fun e w' => ∃ m, e = .returned (.pointer (some ⟨m, 0, none⟩)) ∧ MB w.heap.size w' m (playF (machN 4 0) xs) ∧ Below w.heap.size w w' := by
  have HX := Lib.hid hx
  have HN := Lib.hid hn
  have HR := Lib.hid h
  clear hx hn h
  go_enter Try.func24, Try.ntmps24
  go_wp2_with fail
  refine (new_yes 4 0 w (by decide)).mono ?_
  rintro e w1 ⟨m, F, rfl, h1, f1, b1⟩
  have H1 := Lib.hid (show MB w.heap.size w1 m (machN 4 0) from ⟨F, h1, f1⟩)
  have B1 := Lib.hid b1
  clear h1 f1 b1
  go_wp2_with fail
  go_loopw [19] (fun ix wr => ∃ i : Nat, i ≤ n ∧ ix = .int .i64 i ∧ Hid (MB w.heap.size wr m (playF (machN 4 0) (xs.take i))) ∧ Hid (Below w.heap.size w wr)) (fun ix _ => n - (intOf ix).toNat)
  case atStart => exact ⟨0, by omega, rfl, H1.out, B1.out⟩
  case round =>
    clear H1 B1
    obtain ⟨k, hk, rfl, HM, HB⟩ := hrel
    by_cases hlt : k < n
    · obtain ⟨x, hx⟩ : ∃ x, xs[k]? = some x := ⟨_, List.getElem?_eq_getElem (by rw [HN.out]; exact hlt)⟩
      obtain ⟨b, off, rfl, hb, hc⟩ := (HR.out.below HB.out).at hx
      have FX := Lib.hid (HX.out x (List.mem_of_getElem? hx))
      have HT := Lib.hid (show playF (machN 4 0) (xs.take (k + 1)) = (doF (playF (machN 4 0) (xs.take k)) x).1 by
        rw [List.take_add_one, hx, Option.toList_some, playF_snoc])
      obtain ⟨kd, se, ga, ky, va⟩ := x
      have c0 := hc 0 (by omega)
      have c1 := hc 1 (by omega)
      have c2 := hc 2 (by omega)
      have c3 := hc 3 (by omega)
      have c4 := hc 4 (by omega)
      simp only [MStep.cells, List.getElem?_cons_zero, List.getElem?_cons_succ, Nat.add_zero] at c0 c1 c2 c3 c4
      clear hc hx hb
      have hba := (Below.refl wr.heap.size wr).alloc (Nat.le_refl _) (.cells #[.int .i64 kd, .int .i64 se, .int .i64 ga, .string ky, .string va] 29)
      have rba := RowAt.new wr 29 [.int .i64 kd, .int .i64 se, .int .i64 ga, .string ky, .string va]
      have HMA := Lib.hid (HM.out.below hba)
      have BA := Lib.hid (HB.out.trans (hba.mono HB.out.size))
      have d0 := rba.cell 0
      have d1 := rba.cell 1
      have d2 := rba.cell 2
      have d3 := rba.cell 3
      have d4 := rba.cell 4
      simp only [List.getElem?_cons_zero, List.getElem?_cons_succ] at d0 d1 d2 d3 d4
      clear hba rba
      go_wp2_with fail
      refine (do_mb w.heap.size m _ ⟨kd, se, ga, ky, va⟩ _ HMA.out BA.out.size FX.out.2.2.2.1.le FX.out.2.2.2.2.le).mono ?_
      rintro e w5 ⟨rfl, h5, b5⟩
      have H5 := Lib.hid (show MB w.heap.size w5 m (playF (machN 4 0) (xs.take (k + 1))) by rw [HT.out]; exact h5)
      have B5 := Lib.hid (BA.out.trans b5)
      clear h5 b5 c0 c1 c2 c3 c4 d0 d1 d2 d3 d4
      go_wp2_with fail
      exact ⟨⟨k + 1, by omega, rfl, H5, B5⟩, by show n - ((k : Int) + 1).toNat < n - (k : Int).toNat; omega⟩
    · obtain rfl : k = n := by omega
      have hall : xs.take k = xs := List.take_of_length_le (by rw [HN.out]; exact Nat.le_refl _)
      rw [hall] at HM
      go_wp2_with fail
      go_ret
      exact ⟨m, rfl, HM.out, HB.out⟩
def keyA : ByteArray := ⟨#[97]⟩
def valX : ByteArray := ⟨#[120]⟩
def anch (k : Int) (ky va : ByteArray) : MStep := ⟨k, 0, 0, ky, va⟩
def anchM : Mach := (doF (doF (doF (machN 1 0) (anch 1 ⟨#[]⟩ ⟨#[]⟩)).1 (anch 3 keyA valX)).1 (anch 5 ⟨#[]⟩ ⟨#[]⟩)).1
theorem anch_end : (doF (doF (doF (machN 1 0) (anch 1 ⟨#[]⟩ ⟨#[]⟩)).1 (anch 3 keyA valX)).1 (anch 5 ⟨#[]⟩ ⟨#[]⟩)).2 = ((false, ⟨#[]⟩, 1), 0) ∧ valueF anchM keyA = (valX, true) ∧ anchM.clock = 3 := by
  refine ⟨?_, ?_, ?_⟩
  · decide +kernel
  · decide +kernel
  · decide +kernel
set_option maxRecDepth 100000 in
set_option maxHeartbeats 4000000 in
theorem anchor_any (w : World) : Calls Try.prog 12 #[] w fun e w' => e = .returned (.bool true) ∧ Below w.heap.size w w' := by
  go_enter Try.func12, Try.ntmps12
  go_wp2_with fail
  refine (new_yes 1 0 w (by decide)).mono ?_
  rintro e w1 ⟨m, F, rfl, h1, f1, b1⟩
  have H1 := Lib.hid (show MB w.heap.size w1 m (machN 1 0) from ⟨F, h1, f1⟩)
  have B1 := Lib.hid b1
  clear h1 f1 b1
  go_wp2_with fail
  refine (do_mb w.heap.size m _ (anch 1 ⟨#[]⟩ ⟨#[]⟩) _ H1.out B1.out.size (by decide) (by decide)).mono ?_
  rintro e w2 ⟨rfl, h2, b2⟩
  have H2 := Lib.hid h2
  have B2 := Lib.hid (B1.out.trans b2)
  clear h2 b2
  go_wp2_with fail
  refine (do_mb w.heap.size m _ (anch 3 keyA valX) _ H2.out B2.out.size (by decide) (by decide)).mono ?_
  rintro e w3 ⟨rfl, h3, b3⟩
  have H3 := Lib.hid h3
  have B3 := Lib.hid (B2.out.trans b3)
  clear h3 b3
  go_wp2_with fail
  refine (do_mb w.heap.size m _ (anch 5 ⟨#[]⟩ ⟨#[]⟩) _ H3.out B3.out.size (by decide) (by decide)).mono ?_
  rintro e w4 ⟨he, h4, b4⟩
  rw [anch_end.1] at he
  have he2 : e = .returned (.tuple #[.agg #[.bool false, .string ⟨#[]⟩, .int .i64 1], .int .i64 0]) := he
  subst he2
  have H4 := Lib.hid (show MB w.heap.size w4 m anchM from h4)
  have rb := RowAt.new w4 31 [.bool false, .string ⟨#[]⟩, .int .i64 1]
  have hb := (Below.refl w4.heap.size w4).alloc (Nat.le_refl _) (.cells #[.bool false, .string ⟨#[]⟩, .int .i64 1] 31)
  have B4 := Lib.hid (B3.out.trans (b4.trans (hb.mono (Nat.le_trans B3.out.size b4.size))))
  have H5 := Lib.hid (H4.out.below hb)
  have RB := Lib.hid rb
  clear h4 b4 hb rb he
  go_wp2_with fail
  refine (value_mb w.heap.size m _ keyA _ H5.out (by decide)).mono ?_
  rintro e w5 ⟨he, b5⟩
  rw [show valueF anchM keyA = ((⟨#[120]⟩ : ByteArray), true) from anch_end.2.1] at he
  subst he
  have H6 := Lib.hid (H5.out.below b5)
  have B6 := Lib.hid (B4.out.trans (b5.mono B4.out.size))
  have z2 := (RB.out.below b5).cell 2
  simp only [List.getElem?_cons_zero, List.getElem?_cons_succ] at z2
  clear b5
  go_wp2_with fail
  refine (now_mb w.heap.size m _ _ H6.out).mono ?_
  rintro e w6 ⟨he, rfl⟩
  rw [anch_end.2.2] at he
  subst he
  go_wp2_with fail
  go_ret
  exact ⟨rfl, B6.out⟩

end Go.Proofs.Ytfodagidmdbmlaa
