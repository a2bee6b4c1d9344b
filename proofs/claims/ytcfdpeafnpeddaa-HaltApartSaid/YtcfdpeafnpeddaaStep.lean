/- One step of a game. -/
import Derived.Test.YtcfdpeafnpeddaaGS
namespace Go.Proofs.Ytcfdpeafnpeddaa
set_option linter.unusedVariables false
set_option linter.unusedSimpArgs false
open Go.Conc Go.RowKit Go.MuLone

theorem childF_cases (st : List St) (i : Nat) (m : Int) : childF st i m = (10, st) ∨ childF st i m = (11, st) ∨ (childF st i m = (0, child0 st i m (childC st i)) ∧ st.length < 256) := by
  unfold childF
  split
  · split
    · exact .inr (.inl rfl)
    · exact .inr (.inr ⟨rfl, by omega⟩)
  · exact .inl rfl
theorem cancelF_length {st : List St} {i : Nat} : (cancelF st i).2.length = st.length := by
  unfold cancelF
  split
  · exact endS_length _ _ _
  · rfl
set_option maxRecDepth 100000 in
set_option maxHeartbeats 6400000 in
theorem step_any (x : Pl) (v : Value) (r g cap base : Nat) (st : List St) (k a m : Int) (w : World) (h : GS w x v r g cap base st.length st) (hbw : base ≤ w.heap.size) :
    Calls Try.prog 20 #[v, .pointer (some ⟨r, 0, none⟩), .agg #[.int .i64 k, .int .i64 a, .int .i64 m]] w (SPost x v r g base st w) := by
  obtain ⟨A, c, rfl, hv⟩ := h.view
  have bx := RowAt.new w 45 [.int .i64 k, .int .i64 a, .int .i64 m]
  have b0 := (Below.refl w.heap.size w).alloc (Nat.le_refl _) (.cells [Value.int .i64 k, .int .i64 a, .int .i64 m].toArray 45)
  have h0 := h.below b0
  have hlt := h.lt
  have hle := h.inv.le
  have hpos := h.inv.pos
  obtain ⟨n, hn⟩ : ∃ n, n = st.length := ⟨_, rfl⟩
  rw [← hn] at h0 hle hpos
  have HN := Lib.hid hn
  have BX := Lib.hid bx
  have B0 := Lib.hid b0
  have H0 := Lib.hid h0
  have HLT := Lib.hid hlt
  clear bx b0 h0 h hlt hv
  have hnot : ∀ (x : Bool) (w : World), (Op.unary .not (.bool x)).run Try.prog w = .ok (.bool (!x)) w := fun _ _ => rfl
  have hvw : ∀ i, i < n → ∃ b, A = some ⟨b, 0, none⟩ ∧ (w.alloc (.cells [Value.int .i64 k, .int .i64 a, .int .i64 m].toArray 45)).cell? ⟨b, i, none⟩ = some (.pointer (some ⟨x.B i, 0, none⟩)) := by
    obtain ⟨A', c', e, hv⟩ := H0.out.view
    injection e with e1
    subst e1
    exact hv
  have HV := Lib.hid hvw
  have bc := BX.out.cell
  clear hvw
  rw [← hn]
  clear hn
  simp only [List.toArray] at B0 H0 HV BX bc
  by_cases hbad : ¬ (0 ≤ a ∧ a < n)
  · have hdec : decide (0 ≤ a ∧ a < (n : Int)) = false := decide_eq_false hbad
    go_enter Try.func20, Try.ntmps20
    go_wp2_with fail
    refine (dhas_any r g cap base st a _ H0.out.rt).mono ?_
    rintro e w1 ⟨rfl, rfl⟩
    rw [← HN.out, hdec]
    go_wp2
    refine bodyPost_ret (results_tmp2 rfl _ _ _) rfl ?_
    exact ⟨x, _, g, cap, st, rfl, by rw [← HN.out]; exact H0.out, Turn.of_below B0.out _, fun b hb => .inl (by rw [← HN.out] at hb ⊢; exact hb)⟩
  · obtain ⟨i, rfl⟩ : ∃ i : Nat, a = i := ⟨a.toNat, by omega⟩
    have hi : i < n := by omega
    have hdec : decide (0 ≤ (i : Int) ∧ (i : Int) < (n : Int)) = true := decide_eq_true (by omega)
    clear hbad
    obtain ⟨vb, rfl, hcell⟩ := HV.out i hi
    by_cases e1 : k = 1
    · subst e1
      rcases childF_cases st i m with hcf | hcf | ⟨hcf, hl256⟩
      · -- error 10
        have HCF := Lib.hid hcf
        clear hcf
        go_enter Try.func20, Try.ntmps20
        go_wp2_with fail
        refine (dhas_any r g cap base st i _ H0.out.rt).mono ?_
        rintro e w1 ⟨rfl, rfl⟩
        rw [← HN.out, hdec]
        go_wp2_with fail
        refine (child_any x st i m _ H0.out.ht (by rw [← HN.out]; exact hi) H0.out.inv).mono ?_
        rw [HCF.out]
        unfold ChildPost
        rintro e w2 ⟨x', rfl, h2, t2, o2, hB2⟩
        have H2 := Lib.hid h2
        have T2 := Lib.hid t2
        have O2 := Lib.hid o2
        have HB2 := Lib.hid hB2
        have R2 := Lib.hid (H0.out.rt1 t2)
        have BX2 := Lib.hid (BX.out.turn t2 (fun hh => by have := HLT.out w.heap.size (.inl hh); omega))
        have bc2 := BX2.out.cell
        have hs2 := t2.size
        clear h2 t2 o2 hB2 bc hcell
        simp only [show ¬ ((10 : Int) = 0) by decide, if_false]
        go_wp2_with fail
        refine (dchild_any r g cap base st i m _ R2.out (by rw [← HN.out]; exact hi) H0.out.inv (by have := B0.out.size; omega)).mono ?_
        rw [HCF.out]
        unfold DPost
        rintro e w3 ⟨g', cap', rfl, h3, t3, hg3⟩
        have hfin := H0.out.step (by have := B0.out.size; omega) (by rw [HN.out]; exact Nat.le_refl _) H2.out H0.out.inv T2.out O2.out HB2.out h3 t3 hg3
        have HF := Lib.hid hfin
        clear h3 t3 hg3 hfin bc2
        go_wp2
        refine bodyPost_ret (results_tmp2 rfl _ _ _) rfl ?_
        refine ⟨x', _, g', cap', st, rfl, by rw [← HN.out]; exact HF.out.1, ?_, ?_⟩
        · exact Turn.then (S := gown x st.length _ r g) (Turn.of_below B0.out _) HF.out.2.1 fun b _ hb => hb
        · intro b hb
          rcases HF.out.2.2 b (by rw [← HN.out] at hb; rw [← HN.out]; exact hb) with q | q
          · exact .inl q
          · exact .inr (Nat.le_trans B0.out.size q)
      · -- error 11
        have HCF := Lib.hid hcf
        clear hcf
        go_enter Try.func20, Try.ntmps20
        go_wp2_with fail
        refine (dhas_any r g cap base st i _ H0.out.rt).mono ?_
        rintro e w1 ⟨rfl, rfl⟩
        rw [← HN.out, hdec]
        go_wp2_with fail
        refine (child_any x st i m _ H0.out.ht (by rw [← HN.out]; exact hi) H0.out.inv).mono ?_
        rw [HCF.out]
        unfold ChildPost
        rintro e w2 ⟨x', rfl, h2, t2, o2, hB2⟩
        have H2 := Lib.hid h2
        have T2 := Lib.hid t2
        have O2 := Lib.hid o2
        have HB2 := Lib.hid hB2
        have R2 := Lib.hid (H0.out.rt1 t2)
        have BX2 := Lib.hid (BX.out.turn t2 (fun hh => by have := HLT.out w.heap.size (.inl hh); omega))
        have bc2 := BX2.out.cell
        have hs2 := t2.size
        clear h2 t2 o2 hB2 bc hcell
        simp only [show ¬ ((11 : Int) = 0) by decide, if_false]
        go_wp2_with fail
        refine (dchild_any r g cap base st i m _ R2.out (by rw [← HN.out]; exact hi) H0.out.inv (by have := B0.out.size; omega)).mono ?_
        rw [HCF.out]
        unfold DPost
        rintro e w3 ⟨g', cap', rfl, h3, t3, hg3⟩
        have hfin := H0.out.step (by have := B0.out.size; omega) (by rw [HN.out]; exact Nat.le_refl _) H2.out H0.out.inv T2.out O2.out HB2.out h3 t3 hg3
        have HF := Lib.hid hfin
        clear h3 t3 hg3 hfin bc2
        go_wp2
        refine bodyPost_ret (results_tmp2 rfl _ _ _) rfl ?_
        refine ⟨x', _, g', cap', st, rfl, by rw [← HN.out]; exact HF.out.1, ?_, ?_⟩
        · exact Turn.then (S := gown x st.length _ r g) (Turn.of_below B0.out _) HF.out.2.1 fun b _ hb => hb
        · intro b hb
          rcases HF.out.2.2 b (by rw [← HN.out] at hb; rw [← HN.out]; exact hb) with q | q
          · exact .inl q
          · exact .inr (Nat.le_trans B0.out.size q)
      · -- a child
        obtain ⟨cc, hcc⟩ : ∃ cc, cc = childC st i := ⟨_, rfl⟩
        rw [← hcc] at hcf
        have HIC := Lib.hid (show SInv (child0 st i m cc) by have := H0.out.inv.child i (by rw [← HN.out]; exact hi) m; rw [hcf] at this; exact this)
        have HCF := Lib.hid hcf
        have hlen : (child0 st i m cc).length = n + 1 := by rw [child0_length, ← HN.out]
        have HLen := Lib.hid hlen
        have hn256 : n < 256 := by rw [HN.out]; exact hl256
        clear hcf hcc hlen
        go_enter Try.func20, Try.ntmps20
        go_wp2_with fail
        refine (dhas_any r g cap base st i _ H0.out.rt).mono ?_
        rintro e w1 ⟨rfl, rfl⟩
        rw [← HN.out, hdec]
        go_wp2_with fail
        refine (child_any x st i m _ H0.out.ht (by rw [← HN.out]; exact hi) H0.out.inv).mono ?_
        rw [HCF.out]
        unfold ChildPost
        rintro e w2 ⟨x', rfl, h2, t2, o2, hB2⟩
        have H2 := Lib.hid h2
        have T2 := Lib.hid t2
        have O2 := Lib.hid o2
        have HB2 := Lib.hid hB2
        have R2 := Lib.hid (H0.out.rt1 t2)
        have BX2 := Lib.hid (BX.out.turn t2 (fun hh => by have := HLT.out w.heap.size (.inl hh); omega))
        have bc2 := BX2.out.cell
        have hs2 := t2.size
        clear h2 t2 o2 hB2 bc hcell
        simp only [if_true]
        rw [← HN.out]
        go_wp2_with fail
        refine (dchild_any r g cap base st i m _ R2.out (by rw [← HN.out]; exact hi) H0.out.inv (by have := B0.out.size; omega)).mono ?_
        rw [HCF.out]
        unfold DPost
        rintro e w3 ⟨g', cap', rfl, h3, t3, hg3⟩
        have hfin := H0.out.step (by have := B0.out.size; omega) (by rw [HN.out]; exact Nat.le_refl _) H2.out HIC.out T2.out O2.out HB2.out h3 t3 hg3
        have hs3 := t3.size
        have HF := Lib.hid hfin
        have hown3 := hfin.1.own
        have hbw3 : base ≤ w3.heap.size := by have := B0.out.size; omega
        have HO3 := Lib.hid hown3
        clear h3 t3 hg3 hfin bc2 hown3
        obtain ⟨i0, hi0, hz0, hz1, hz2⟩ := info23
        go_wp2_with (at_builtin; refine wpList_append_own_at _ rfl _ _ 32 rfl base 23 i0 (.pointer none) 1 8 Try.underlying32 hi0 hz0 hz1 hz2 rfl (by decide) _ _ _ rfl (HO3.out.alloc _) ⟨w3.heap.size, 0, none⟩ 1 1 [.pointer (some ⟨x'.B n, 0, none⟩)] rfl rfl (cell_one_new _ _ _) ?c2 ?c3 ?c4 ?c5 ?_)
        case c2 => first | rfl | (intro u hu; simp at hu; subst hu; rfl)
        case c3 => rw [List.length_map, List.length_range]; unfold maxLen; omega
        case c4 => rw [List.length_map, List.length_range]; omega
        case c5 => simp; omega
        intro v' w5 hown' hgrow _ hob

        have hap := HF.out.1.append hbw3 hown' hgrow hob
        have HA := Lib.hid hap
        clear hown' hgrow hob hap
        go_wp2
        refine bodyPost_ret (results_tmp2 rfl _ _ _) rfl ?_
        refine ⟨x', _, g', cap', _, rfl, by rw [HLen.out]; exact HA.out.1, ?_, ?_⟩
        · refine Turn.then (S := gown x st.length _ r g) (Turn.then (S := gown x st.length _ r g) (Turn.of_below B0.out _) HF.out.2.1 fun b _ hb => hb) HA.out.2.1 fun b _ hb => .inr (.inl hb)
        · intro b hb
          rcases HA.out.2.2 b hb with q | q
          · rcases HF.out.2.2 b q with q | q
            · exact .inl q
            · exact .inr (Nat.le_trans B0.out.size q)
          · exact .inr (by have := B0.out.size; omega)
    by_cases e2 : k = 2
    · subst e2
      go_enter Try.func20, Try.ntmps20
      go_wp2_with fail
      refine (dhas_any r g cap base st i _ H0.out.rt).mono ?_
      rintro e w1 ⟨rfl, rfl⟩
      rw [← HN.out, hdec]
      go_wp2_with fail
      refine (cancel_any x st i _ H0.out.ht (by rw [← HN.out]; exact hi) H0.out.inv.le H0.out.inv.wf H0.out.inv.con).mono ?_
      rintro e w2 ⟨rfl, h2, t2⟩
      have hl2 : (cancelF st i).2.length = st.length := cancelF_length
      have H2 := Lib.hid h2
      have T2 := Lib.hid t2
      have HL2 := Lib.hid hl2
      have HI2 := Lib.hid (H0.out.inv.cancel i)
      have R2 := Lib.hid (H0.out.rt1 t2)
      have BX2 := Lib.hid (BX.out.turn t2 (fun hh => by have := HLT.out w.heap.size (.inl hh); omega))
      have bc2 := BX2.out.cell
      have hs2 := t2.size
      clear h2 t2 hl2 bc hcell
      obtain ⟨bb, hbb⟩ : ∃ bb, bb = (cancelF st i).1 := ⟨_, rfl⟩
      rw [← hbb]
      have HBB := Lib.hid hbb
      clear hbb
      go_wp2_with fail
      refine (dcancel_any r g cap base st i _ R2.out (by rw [← HN.out]; exact hi) H0.out.inv).mono ?_
      rw [← HBB.out]
      rintro e w3 ⟨rfl, h3, t3⟩
      have hfin := H0.out.step (by have := B0.out.size; omega) (by rw [HN.out]; exact Nat.le_refl _) H2.out HI2.out T2.out (fun b hb => .inl (by rw [HL2.out] at hb; exact hb)) (fun _ _ => rfl) h3 (t3.mono fun b _ hb => .inr hb) (.inl rfl)
      have HF := Lib.hid hfin
      clear h3 t3 hfin bc2
      go_wp2
      refine bodyPost_ret (results_tmp2 rfl _ _ _) rfl ?_
      refine ⟨x, .slice (some ⟨vb, 0, none⟩) n c, g, cap, _, by simp, by rw [HL2.out, ← HN.out]; exact HF.out.1, ?_, ?_⟩
      · exact Turn.then (S := gown x st.length _ r g) (Turn.of_below B0.out _) HF.out.2.1 fun b _ hb => hb
      · intro b hb
        rcases HF.out.2.2 b (by rw [HL2.out, ← HN.out] at hb; rw [HL2.out, ← HN.out]; exact hb) with q | q
        · exact .inl q
        · exact .inr (Nat.le_trans B0.out.size q)
    by_cases e3 : k = 3
    · subst e3
      go_enter Try.func20, Try.ntmps20
      go_wp2_with fail
      refine (dhas_any r g cap base st i _ H0.out.rt).mono ?_
      rintro e w1 ⟨rfl, rfl⟩
      rw [← HN.out, hdec]
      go_wp2_with fail
      refine (beat_any x st i _ H0.out.ht (by rw [← HN.out]; exact hi) H0.out.inv).mono ?_
      rintro e w2 ⟨rfl, h2, t2⟩
      have hl2 : (beatF st i).2.length = st.length := beatF_length H0.out.inv.wf (by rw [← HN.out]; exact hi)
      have H2 := Lib.hid h2
      have T2 := Lib.hid t2
      have HL2 := Lib.hid hl2
      have HI2 := Lib.hid (H0.out.inv.beat i (by rw [← HN.out]; exact hi))
      have R2 := Lib.hid (H0.out.rt1 t2)
      have BX2 := Lib.hid (BX.out.turn t2 (fun hh => by have := HLT.out w.heap.size (.inl hh); omega))
      have bc2 := BX2.out.cell
      have hs2 := t2.size
      clear h2 t2 hl2 bc hcell
      obtain ⟨bb, hbb⟩ : ∃ bb, bb = (beatF st i).1 := ⟨_, rfl⟩
      rw [← hbb]
      have HBB := Lib.hid hbb
      clear hbb
      go_wp2_with fail
      refine (dbeat_any r g cap base st i _ R2.out (by rw [← HN.out]; exact hi) H0.out.inv).mono ?_
      rw [← HBB.out]
      rintro e w3 ⟨rfl, h3, t3⟩
      have hfin := H0.out.step (by have := B0.out.size; omega) (by rw [HN.out]; exact Nat.le_refl _) H2.out HI2.out T2.out (fun b hb => .inl (by rw [HL2.out] at hb; exact hb)) (fun _ _ => rfl) h3 (t3.mono fun b _ hb => .inr hb) (.inl rfl)
      have HF := Lib.hid hfin
      clear h3 t3 hfin bc2
      go_wp2
      refine bodyPost_ret (results_tmp2 rfl _ _ _) rfl ?_
      refine ⟨x, .slice (some ⟨vb, 0, none⟩) n c, g, cap, _, by simp, by rw [HL2.out, ← HN.out]; exact HF.out.1, ?_, ?_⟩
      · exact Turn.then (S := gown x st.length _ r g) (Turn.of_below B0.out _) HF.out.2.1 fun b _ hb => hb
      · intro b hb
        rcases HF.out.2.2 b (by rw [HL2.out, ← HN.out] at hb; rw [HL2.out, ← HN.out]; exact hb) with q | q
        · exact .inl q
        · exact .inr (Nat.le_trans B0.out.size q)
    by_cases e4 : k = 4
    · subst e4
      obtain ⟨q0, q1, q2⟩ := H0.out.rt.at (i := i) (by rw [← HN.out]; exact hi)
      have qh := H0.out.rt.head_cell
      rw [← HN.out] at qh
      have hcap := H0.out.rt.caps
      go_enter Try.func20, Try.ntmps20
      go_wp2_with fail
      refine (dhas_any r g cap base st i _ H0.out.rt).mono ?_
      rintro e w1 ⟨rfl, rfl⟩
      rw [← HN.out, hdec]
      go_wp2_with fail
      have hsz0 : w.heap.size ≤ (w.alloc (.cells #[.int .i64 4, .int .i64 i, .int .i64 m] 45)).heap.size := B0.out.size
      have HBX := Lib.hid (show RowAt (w.alloc (.cells #[.int .i64 4, .int .i64 i, .int .i64 m] 45)) w.heap.size 45 [.int .i64 4, .int .i64 i, .int .i64 m] from BX.out)
      generalize w.alloc (.cells #[.int .i64 4, .int .i64 i, .int .i64 m] 45) = W2 at B0 H0 HBX hsz0 q0 q1 q2 qh bc hcell ⊢
      clear BX
      obtain ⟨sp, hsp⟩ : ∃ s, s = ns st i := ⟨_, rfl⟩
      rw [← hsp] at q0 q1 q2
      have bc1 : W2.cell? ⟨w.heap.size, 1, none⟩ = some (.int .i64 i) := bc 1
      have hd2 := Lib.hid (H0.out.turn ((Turn.refl (fun _ => False) W2).drew) (fun _ _ => id))
      have HSP := Lib.hid hsp
      clear bc hsp
      go_region_held3 (fun w' => w'.cell? ⟨r, 0, none⟩ = some (.slice (some ⟨g, 0, none⟩) n cap) ∧ w'.cell? ⟨w.heap.size, 1, none⟩ = some (.int .i64 i) ∧ w'.cell? ⟨g, i * 3, none⟩ = some (.int .i64 sp.par) ∧ w'.cell? ⟨g, i * 3 + 1, none⟩ = some (.int .i64 sp.left) ∧ w'.cell? ⟨g, i * 3 + 2, none⟩ = some (.int .i64 sp.cause))
        (first | exact ⟨qh, bc1, q0, q1, q2⟩ | exact ⟨rh3, bc3, r0, r1, r2⟩)
        (first
          | (go_at_call 21; refine (told_any x st i sp HSP.out _ hd2.out.ht (by rw [← HN.out]; exact hi)).mono ?_; rintro e3 w3 ⟨rfl, h3, t3⟩; have t4 := (Turn.refl (x.own st.length) W2).drew.trans t3; have RT3 := Lib.hid (H0.out.rt1 t4); obtain ⟨r0, r1, r2⟩ := RT3.out.at (i := i) (by rw [← HN.out]; exact hi); rw [← HSP.out] at r0 r1 r2; have rh3 := RT3.out.head_cell; rw [← HN.out] at rh3; have bc3 : w3.cell? ⟨w.heap.size, 1, none⟩ = some (.int .i64 i) := (HBX.out.turn t4 (fun hh => by have := HLT.out w.heap.size (.inl hh); omega)).cell 1; have H3 := Lib.hid h3; have T3 := Lib.hid t4; clear h3 t3 t4))
      have hfin := H0.out.step (w2 := w3) (by have := B0.out.size; omega) (by rw [HN.out]; exact Nat.le_refl _) H3.out H0.out.inv T3.out (fun b hb => .inl hb) (fun _ _ => rfl) RT3.out (Turn.refl _ _) (.inl rfl)
      have HF := Lib.hid hfin
      clear hfin
      go_wp2
      refine bodyPost_ret (results_tmp2 rfl _ _ _) rfl ?_
      refine ⟨x, .slice (some ⟨vb, 0, none⟩) n c, g, cap, _, by simp, by rw [← HN.out]; exact HF.out.1, ?_, ?_⟩
      · exact Turn.then (S := gown x st.length _ r g) (Turn.of_below B0.out _) HF.out.2.1 fun b _ hb => hb
      · intro b hb
        rcases HF.out.2.2 b (by rw [← HN.out] at hb; rw [← HN.out]; exact hb) with q | q
        · exact .inl q
        · exact .inr (Nat.le_trans B0.out.size q)
    · go_enter Try.func20, Try.ntmps20
      go_wp2_with fail
      refine (dhas_any r g cap base st i _ H0.out.rt).mono ?_
      rintro e w1 ⟨rfl, rfl⟩
      rw [← HN.out, hdec]
      go_wp2
      refine bodyPost_ret (results_tmp2 rfl _ _ _) rfl ?_
      exact ⟨x, _, g, cap, st, rfl, by rw [← HN.out]; exact H0.out, Turn.of_below B0.out _, fun b hb => .inl (by rw [← HN.out] at hb ⊢; exact hb)⟩
end Go.Proofs.Ytcfdpeafnpeddaa
