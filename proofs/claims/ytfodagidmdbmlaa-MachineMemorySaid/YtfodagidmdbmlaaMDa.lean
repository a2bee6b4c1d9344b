/- Do. -/
import Derived.Test.YtfodagidmdbmlaaMD
namespace Go.Proofs.Ytfodagidmdbmlaa
set_option linter.unusedVariables false
set_option linter.unusedSimpArgs false
open Go.RowKit

set_option maxRecDepth 100000 in
set_option maxHeartbeats 8000000 in
theorem do_abort (m : Nat) (M : Mach) (gs p : Nat) (lv : Value) (pl : List Pl) (Fs : Nat → Prop) (N : Nat) (s : MStep) (w : World) (h : MachAt w m M gs p lv pl Fs N) (hi : MOK M) (hN : N ≤ 16 * M.ends.length) (hk : s.key.size ≤ maxLen) (hv : s.value.size ≤ maxLen) (hr : refuseF M s = 0) (HKD : s.kind = 6) :
    Calls Try.prog 14 #[.pointer (some ⟨m, 0, none⟩), .agg #[.int .i64 s.kind, .int .i64 s.session, .int .i64 s.gap, .string s.key, .string s.value]] w (DoPost w m M gs p lv pl Fs s) := by
  obtain ⟨kd, se, ga, ky, va⟩ := s
  simp only at hr hk hv HKD
  subst HKD
  have hb1 := (Below.refl w.heap.size w).alloc (Nat.le_refl _) (.cells #[.int .i64 6, .int .i64 se, .int .i64 ga, .string ky, .string va] 29)
  have hb0 := hb1.alloc hb1.size (.cells #[.bool false, .string ⟨#[]⟩, .int .i64 0] 31)
  have rb0 := (RowAt.new w 29 [.int .i64 6, .int .i64 se, .int .i64 ga, .string ky, .string va]).alloc (.cells #[.bool false, .string ⟨#[]⟩, .int .i64 0] 31)
  have rr0 := RowAt.new' (w.alloc (.cells #[.int .i64 6, .int .i64 se, .int .i64 ga, .string ky, .string va] 29)) (w.heap.size + 1) 31 [.bool false, .string ⟨#[]⟩, .int .i64 0] (by simp)
  have d0 := rb0.cell 0
  have d1 := rb0.cell 1
  have d2 := rb0.cell 2
  have d3 := rb0.cell 3
  have d4 := rb0.cell 4
  simp only [List.getElem?_cons_zero, List.getElem?_cons_succ] at d0 d1 d2 d3 d4
  have hel : M.ends.length ≤ 4096 := Nat.le_trans hi.ends hi.inv.cnt
  have H := Lib.hid h
  have HI := Lib.hid hi.inv
  have HOK := Lib.hid hi
  have HEL := Lib.hid hel
  have HNN := Lib.hid hN
  have H0 := Lib.hid (h.below hb0)
  have B0 := Lib.hid hb0
  have RB0 := Lib.hid rb0
  have RR0 := Lib.hid rr0
  have HK := Lib.hid hk
  have HV := Lib.hid hv
  clear h hi hel hN hb1 hb0 rb0 rr0 hk hv
  go_enter Try.func14, Try.ntmps14
  go_wp2_with fail
  refine (refuse_any m M gs p lv pl Fs N ⟨6, se, ga, ky, va⟩ _ H0.out HI.out HK.out HV.out).mono ?_
  rintro e w1 ⟨he, b1⟩
  have B1 := Lib.hid (B0.out.trans (b1.mono B0.out.size))
  have H1 := Lib.hid (H0.out.below b1)
  have RB1 := Lib.hid (RB0.out.below b1)
  have RR1 := Lib.hid (RR0.out.below b1)
  have HT1 := Lib.hid (Turn.of_below B1.out (MF m gs lv pl Fs))
  clear b1 d0 d1 d2 d3 d4
  have he2 : refuseF M ⟨6, se, ga, ky, va⟩ = 0 := hr
  rw [he2] at he
  subst he
  have HR0 := Lib.hid he2
  obtain ⟨hform, hnow⟩ := refuse_zero he2
  obtain ⟨hk1, hk2, hk3, hk4, hk5⟩ := form_zero hform
  simp only at hk1 hk2 hk3 hk4 hk5
  obtain ⟨k, rfl⟩ : ∃ k : Nat, se = (k : Int) := ⟨se.toNat, by omega⟩
  have hkl : k < M.sess.length := by omega
  obtain ⟨⟨o, sq⟩, hx⟩ : ∃ x, M.sess[k]? = some x := ⟨_, List.getElem?_eq_getElem hkl⟩
  have hgx : M.sess.getD k (none, 0) = (o, sq) := by rw [List.getD_eq_getElem?_getD, hx]; rfl
  simp only [Int.toNat_natCast] at hnow
  rw [hgx] at hnow
  simp only at hnow
  have hn64 := HI.out.n0
  have hc0 := HI.out.c0
  have hc1 := HI.out.c1
  have hcn := HI.out.cnt
  have HX := Lib.hid hx
  have HGX := Lib.hid hgx
  obtain ⟨n, hn⟩ : ∃ n, n = M.sess.length := ⟨_, rfl⟩
  obtain ⟨clk, hclk⟩ : ∃ n, n = M.clock := ⟨_, rfl⟩
  obtain ⟨ck, hck⟩ : ∃ n, n = clk + 1 + ga := ⟨_, rfl⟩
  have hro := H1.out.row
  unfold rowM at hro
  rw [← hn, ← hclk] at hro
  rw [← hn] at hkl hn64 hk2
  rw [← hclk] at hc0 hc1 hnow
  have hw1 : IntKind.i64.wrap (1 + ga) = 1 + ga := wrap_in (by omega) (by omega)
  have hw2 : IntKind.i64.wrap (clk + (1 + ga)) = ck := by rw [wrap_in (by omega) (by omega)]; omega
  have ROW1 := Lib.hid hro
  have HN := Lib.hid hn
  have HCL := Lib.hid hclk
  have HCK := Lib.hid hck
  have m1 := ROW1.out.cell 1
  have mf1 := ROW1.out.frozen 1
  have m3 := ROW1.out.cell 3
  have d0 := RB1.out.cell 0
  have d1 := RB1.out.cell 1
  have d2 := RB1.out.cell 2
  simp only [List.getElem?_cons_zero, List.getElem?_cons_succ] at m1 m3 d0 d1 d2
  have nb : m ≠ w.heap.size := fun e => ROW1.out.ne RB1.out (by decide) e
  clear hx hgx hn hclk hck hro he2 hform
  go_wp2_with fail
  go_region
  -- the clock
  have t2 : Turn (fun i => i = m) w1 (w1.setCell ⟨m, 1, none⟩ (.int .i64 ck)).drew := (Turn.setCell (S := fun i => i = m) (p := ⟨m, 1, none⟩) (Turn.refl _ _) (.inl rfl) _).drew
  have h2 : MachAt (w1.setCell ⟨m, 1, none⟩ (.int .i64 ck)).drew m (tick M ga) gs p lv pl Fs N := H1.out.setRow (M.clock + 1 + ga) t2 (RowAt.drew ((H1.out.row.set 1 (.int .i64 ck)).congr (by rw [HCK.out, HCL.out]; rfl)))
  obtain ⟨W2, hW2⟩ : ∃ WW : World, WW = (w1.setCell ⟨m, 1, none⟩ (.int .i64 ck)).drew := ⟨_, rfl⟩
  rw [← hW2] at t2 h2 ⊢
  have H2 := Lib.hid h2
  have HT2 := Lib.hid (HT1.out.trans (t2.mono fun k _ e => .inl e))
  have RB2 := Lib.hid (RB1.out.turn t2 (fun e => nb e.symm))
  have RR2 := Lib.hid (RR1.out.turn t2 (fun e => ROW1.out.ne RR1.out (by decide) e.symm))
  obtain ⟨M1, hM1⟩ : ∃ X, X = tick M ga := ⟨_, rfl⟩
  rw [← hM1] at H2
  have HM1 := Lib.hid hM1
  have ro2 := H2.out.row
  unfold rowM at ro2
  rw [show M1.sess.length = n by rw [hM1]; exact HN.out.symm, show M1.clock = ck by rw [hM1, HCK.out, HCL.out]; rfl] at ro2
  have ROW2 := Lib.hid ro2
  have n1 := ROW2.out.cell 1
  have n3 := ROW2.out.cell 3
  have d0 := RB2.out.cell 0
  have d1 := RB2.out.cell 1
  have d2 := RB2.out.cell 2
  have d3 := RB2.out.cell 3
  have d4 := RB2.out.cell 4
  simp only [List.getElem?_cons_zero, List.getElem?_cons_succ] at n1 n3 d0 d1 d2 d3 d4
  have hkk0 : (0 : Int) ≤ (k : Int) := by omega
  have hkk1 : (k : Int) < (n : Int) := by omega
  clear hW2 t2 h2 hM1 ro2 m1 mf1 m3
  go_wp2_with fail
  go_region
  have hd3 : Turn (fun _ => False) W2 W2.drew := (Turn.refl _ _).drew
  have H3 := Lib.hid (H2.out.turn hd3 (fun _ _ h => h))
  have HT3 := Lib.hid HT2.out.drew
  have RB3 := Lib.hid (RowAt.drew RB2.out)
  have RR3 := Lib.hid (RowAt.drew RR2.out)
  have ROW3 := Lib.hid (RowAt.drew ROW2.out)
  have HB3 := Lib.hid (show w.heap.size + 2 ≤ W2.drew.heap.size by have := RR2.out.lt; show w.heap.size + 2 ≤ W2.heap.size; omega)
  clear hd3
  obtain ⟨W3, hW3⟩ : ∃ WW : World, WW = W2.drew := ⟨_, rfl⟩
  rw [← hW3] at H3 HT3 RB3 RR3 ROW3 HB3 ⊢
  clear hW3 H2 HT2 RB2 RR2 ROW2 n1 n3 d0 d1 d2 d3 d4
  have n1 := ROW3.out.cell 1
  have d0 := RB3.out.cell 0
  have d1 := RB3.out.cell 1
  have d3 := RB3.out.cell 3
  have d4 := RB3.out.cell 4
  simp only [List.getElem?_cons_zero, List.getElem?_cons_succ] at n1 d0 d1 d3 d4
  have HI1 := Lib.hid (show MInv M1 by rw [HM1.out]; exact tick_inv HI.out hk3.1 (by rw [← HCL.out]; exact hnow.2))
  have HX1 := Lib.hid (show M1.sess[k]? = some (o, sq) by rw [HM1.out]; exact HX.out)
  have s0 := (H3.out.sess HX1.out).1
  have HCK1 := Lib.hid (show M1.clock = ck by rw [HM1.out, HCK.out, HCL.out]; rfl)
  obtain ⟨j, rfl, hops⟩ : ∃ j, o = some j ∧ ((2 : Int) ≤ 6 ∧ (6 : Int) ≤ 4 → (M.all.getD j Run.zero).ops.length < 16) := by
    rcases hnow.1 with h | h
    · exact absurd h.1 (by decide)
    · exact h.2
  simp only [Option.map_some] at s0
  obtain ⟨r, hr1, -⟩ := HI1.out.now k j sq HX1.out
  have HR1 := Lib.hid hr1
  have hgr : M.all.getD j Run.zero = r := by
    have : M.all[j]? = some r := by rw [HM1.out] at hr1; exact hr1
    rw [List.getD_eq_getElem?_getD, this]
    rfl
  rw [hgr] at hops
  have HGR := Lib.hid hgr
  have HCJ := Lib.hid (show curJ M k = j by unfold curJ; rw [HGX.out]; rfl)
  have HCR := Lib.hid (show curR M k = r by unfold curR; rw [HCJ.out]; exact hgr)
  have HLIVE := Lib.hid (show j ∉ M1.ends by rw [HM1.out]; exact HOK.out.live k j sq HX.out)
  have HEL1 := Lib.hid (show M1.ends.length ≤ 4096 by rw [HM1.out]; exact HEL.out)
  have HNN1 := Lib.hid (show N ≤ 16 * M1.ends.length by rw [HM1.out]; exact HNN.out)
  have hNb : N < 2900000000000 := by have := HNN.out; have := HEL.out; omega
  clear hr1 hgr hnow
  have HD := Lib.hid (show doF M ⟨6, (k : Int), ga, ky, va⟩ = (finF M1 k j false, zAns, 0) by
    rw [doF_6 HR0.out rfl (Int.toNat_natCast k) HCJ.out, HM1.out])
  go_wp2_with fail
  refine (finish_no m M1 gs p lv pl Fs N k j sq _ H3.out HI1.out HX1.out HLIVE.out HEL1.out hNb).mono ?_
  rintro e w4 ⟨rfl, lv', Fs', h4, mf4, t4⟩
  have H4 := Lib.hid h4
  have HMF := Lib.hid (show ∀ i, MF m gs lv' pl Fs' i → MF m gs lv pl Fs i ∨ w.heap.size + 2 ≤ i from fun i hi => (mf4 i hi).imp id fun h => Nat.le_trans HB3.out h)
  have HT4 := Lib.hid (HT3.out.trans t4)
  have RR4 := Lib.hid (RR3.out.turn t4 fun hi => by have := H.out.mf_lt _ hi; omega)
  have HE4 := Lib.hid (show N + 16 ≤ 16 * (finF M1 k j false).ends.length by unfold finF; rw [List.length_append, List.length_singleton]; have := HNN1.out; omega)
  clear h4 mf4 t4
  have zc := RR4.out.cell
  have zf := RR4.out.frozen
  go_wp2
  have r9 := (RR4.out.wset [.bool false, .string ⟨#[]⟩, .int .i64 0] 0).congr (cs' := [.bool false, .string ⟨#[]⟩, .int .i64 0]) rfl
  refine bodyPost_ret (results_ct (T := 31) Try.results14 _ rfl r9 Try.underlying31 rfl (by kernel_rfl)) rfl ?_
  have tz := Turn.wset (S := fun i => i = w.heap.size + 1) (g := w.heap.size + 1) (.inl rfl) [.bool false, .string ⟨#[]⟩, .int .i64 0] 0 (Turn.refl (fun i => i = w.heap.size + 1) w4)
  have hmz := H4.out.turn tz fun i hi e => by
    rcases HMF.out i hi with h | h
    · have := H.out.mf_lt i h; omega
    · omega
  unfold DoPost
  rw [HD.out]
  refine ⟨rfl, _, _, _, _, hmz, HE4.out, fun i hi => (HMF.out i hi).imp id fun h => by omega, ?_⟩
  exact HT4.out.then tz fun i hi e => by exfalso; omega

end Go.Proofs.Ytfodagidmdbmlaa
