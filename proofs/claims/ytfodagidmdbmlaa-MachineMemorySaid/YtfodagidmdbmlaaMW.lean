/- finish. -/
import Derived.Test.YtfodagidmdbmlaaMV
namespace Go.Proofs.Ytfodagidmdbmlaa
set_option linter.unusedVariables false
set_option linter.unusedSimpArgs false
open Go.RowKit

theorem logC_len (x : Run × Value) : (logC x).length = 8 := rfl
theorem logC_one (x : Run × Value) : ∀ u ∈ logC x, u.oneCell' = true := by
  intro u hu
  obtain ⟨r, v⟩ := x
  simp only [logC, txnC, List.mem_cons, List.not_mem_nil, or_false] at hu
  rcases hu with rfl | rfl | rfl | rfl | rfl | rfl | rfl | rfl
  all_goals first | rfl | (unfold sliceOf; split <;> rfl)
/-- What finish leaves. -/
def FinPost (w : World) (m : Nat) (M : Mach) (gs p : Nat) (lv : Value) (pl : List Pl) (Fs : Nat → Prop) (N s j : Nat) (b : Bool) (e : Ending) (w' : World) : Prop :=
  e = .returned (.int .i64 (if b then 1 else 0)) ∧ ∃ lv' Fs', MachAt w' m (finF M s j b) gs p lv' pl Fs' (N + 16) ∧ (∀ i, MF m gs lv' pl Fs' i → MF m gs lv pl Fs i ∨ w.heap.size ≤ i) ∧ Turn (MF m gs lv pl Fs) w w'
set_option maxRecDepth 100000 in
set_option maxHeartbeats 8000000 in
theorem finish_no (m : Nat) (M : Mach) (gs p : Nat) (lv : Value) (pl : List Pl) (Fs : Nat → Prop) (N s j : Nat) (sq : Int) (w : World) (h : MachAt w m M gs p lv pl Fs N) (hi : MInv M) (hx : M.sess[s]? = some (some j, sq)) (hj : j ∉ M.ends) (hel : M.ends.length ≤ 4096) (hN : N < 2900000000000) :
    Calls Try.prog 35 #[.pointer (some ⟨m, 0, none⟩), .pointer (some ⟨gs, s * 2, none⟩), .bool false] w (FinPost w m M gs p lv pl Fs N s j false) := by
  obtain ⟨r, hr, -⟩ := hi.now s j sq hx
  have HX := Lib.hid hx
  obtain ⟨pq, pa⟩ := h.place hr
  have hgd : M.all.getD j Run.zero = r := by rw [List.getD_eq_getElem?_getD, hr]; rfl
  have hsq : (M.sess.getD s (none, 0)).2 = sq := by rw [List.getD_eq_getElem?_getD, hx]; rfl
  have H := Lib.hid h
  have HI := Lib.hid hi
  have HR := Lib.hid hr
  have HJ := Lib.hid hj
  have HEL := Lib.hid hel
  have HGD0 := Lib.hid hgd
  have HSQ := Lib.hid hsq
  have PQ := Lib.hid pq
  obtain ⟨⟨qb, ov, sv⟩, hqb⟩ : ∃ z, z = plAt pl j := ⟨_, rfl⟩
  rw [← hqb] at pa pq
  have HQB := Lib.hid hqb
  have PA := Lib.hid pa
  have hov : sliceOf ov = ov := by
    obtain ⟨A, c, e⟩ := own_forms pa.ops
    simp only at e
    rw [e]
    rfl
  have HOV := Lib.hid hov
  have PQ := Lib.hid pq
  obtain ⟨x0, hx0⟩ : ∃ n, n = r.session := ⟨_, rfl⟩
  obtain ⟨x1, hx1⟩ : ∃ n, n = r.seq := ⟨_, rfl⟩
  obtain ⟨x2, hx2⟩ : ∃ n, n = r.start := ⟨_, rfl⟩
  obtain ⟨x4, hx4⟩ : ∃ n, n = r.invoke := ⟨_, rfl⟩
  obtain ⟨clk, hclk⟩ : ∃ n, n = M.clock := ⟨_, rfl⟩
  have HX0 := Lib.hid hx0.symm
  have HX1 := Lib.hid hx1.symm
  have HX2 := Lib.hid hx2.symm
  have HX4 := Lib.hid hx4.symm
  have HCL := Lib.hid hclk
  have s0 := (h.sess hx).1
  simp only [Option.map_some] at s0
  rw [← hqb] at s0
  simp only at s0
  have sf := h.ses.frozen (s * 2)
  -- the session's cell
  have t1 : Turn (fun i => i = gs) w (w.setCell ⟨gs, s * 2, none⟩ (.pointer none)) := Turn.setCell (S := fun i => i = gs) (p := ⟨gs, s * 2, none⟩) (Turn.refl _ _) (.inl rfl) _
  have h1 := h.setSess s (none, sq) t1 ((h.ses.set (s * 2) (.pointer none)).congr (sess_now hx none))
  obtain ⟨W1, hW1⟩ : ∃ WW : World, WW = w.setCell ⟨gs, s * 2, none⟩ (.pointer none) := ⟨_, rfl⟩
  rw [← hW1] at t1 h1
  have T1 := Lib.hid t1
  have H1 := Lib.hid h1
  have HW1 := Lib.hid hW1
  obtain ⟨pq1, pa1⟩ := h1.place (show ({ M with sess := M.sess.set s (none, sq) } : Mach).all[j]? = some r from hr)
  rw [← hqb] at pa1
  have PA1 := Lib.hid pa1
  -- the transaction's cells
  have u3 := pa1.row.cell
  have uf := pa1.row.frozen
  simp only [actC] at u3
  have m1 := h1.row.cell 1
  simp only [rowM, List.getElem?_cons_zero, List.getElem?_cons_succ] at m1
  rw [← hclk] at m1
  have hne : qb ≠ m := pa1.row.ne h1.row (by decide)
  clear h hi hx hr hj hel hgd hsq pq pa hqb hov hx0 hx1 hx2 hx4 hclk t1 h1 hW1 pq1 pa1
  go_enter Try.func35, Try.ntmps35
  go_wp2_with fail
  rw [← HW1.out]
  go_region
  have t2 : Turn (fun k => k = qb ∨ ov.ownBlock = some k ∨ sv.ownBlock = some k) W1 (((W1.setCell ⟨qb, 3, none⟩ (.int .i64 clk)).setCell ⟨qb, 5, none⟩ (.int .i64 clk)).setCell ⟨qb, 6, none⟩ (.int .i64 0)).drew := (((Turn.setCell (S := fun k => k = qb ∨ ov.ownBlock = some k ∨ sv.ownBlock = some k) (p := ⟨qb, 3, none⟩) (Turn.refl _ _) (.inl (.inl rfl)) _).setCell (p := ⟨qb, 5, none⟩) (.inl (.inl rfl)) _).setCell (p := ⟨qb, 6, none⟩) (.inl (.inl rfl)) _).drew
  have t2s : Turn (fun k => k = qb) W1 (((W1.setCell ⟨qb, 3, none⟩ (.int .i64 clk)).setCell ⟨qb, 5, none⟩ (.int .i64 clk)).setCell ⟨qb, 6, none⟩ (.int .i64 0)).drew := (((Turn.setCell (S := fun k => k = qb) (p := ⟨qb, 3, none⟩) (Turn.refl _ _) (.inl rfl) _).setCell (p := ⟨qb, 5, none⟩) (.inl rfl) _).setCell (p := ⟨qb, 6, none⟩) (.inl rfl) _).drew
  have a2 : AAt (((W1.setCell ⟨qb, 3, none⟩ (.int .i64 clk)).setCell ⟨qb, 5, none⟩ (.int .i64 clk)).setCell ⟨qb, 6, none⟩ (.int .i64 0)).drew { r with fin := clk, ret := clk, status := 0 } ⟨qb, ov, sv⟩ j :=
    ⟨RowAt.drew ((((PA1.out.row.set 3 _).set 5 _).set 6 _).congr rfl), Own.turn PA1.out.ops t2s (fun g hg e => own_far PA1.out.ops PA1.out.row (by decide) (by rw [← e]; exact hg)), Own.turn PA1.out.tms t2s (fun g hg e => own_far PA1.out.tms PA1.out.row (by decide) (by rw [← e]; exact hg))⟩
  have h2 := H1.out.setAct PQ.out { r with fin := clk, ret := clk, status := 0 } rfl t2 a2 (fun g hg => .inl hg) (fun g hg => .inl hg) HJ.out
  rw [set_self PQ.out] at h2
  obtain ⟨W2, hW2⟩ : ∃ WW : World, WW = (((W1.setCell ⟨qb, 3, none⟩ (.int .i64 clk)).setCell ⟨qb, 5, none⟩ (.int .i64 clk)).setCell ⟨qb, 6, none⟩ (.int .i64 0)).drew := ⟨_, rfl⟩
  rw [← hW2] at t2 a2 h2 ⊢
  obtain ⟨M2, hM2⟩ : ∃ X : Mach, X = { M with sess := M.sess.set s (none, sq), all := M.all.set j { r with fin := clk, ret := clk, status := 0 } } := ⟨_, rfl⟩
  have HM2 := Lib.hid hM2
  have H2 := Lib.hid (show MachAt W2 m M2 gs p lv pl Fs N by rw [hM2]; exact h2)
  have A2 := Lib.hid a2
  have T2 := Lib.hid t2
  clear hW2 t2 t2s a2 h2 hM2 u3 uf m1 s0 sf
  have HGD := Lib.hid (show M2.all.getD j Run.zero = { r with fin := clk, ret := clk, status := 0 } by
    rw [HM2.out, List.getD_eq_getElem?_getD]
    show ((M.all.set j _)[j]?).getD _ = _
    rw [List.getElem?_set, if_pos rfl, if_pos (List.getElem?_eq_some_iff.1 HR.out).1]
    rfl)
  have HEL := Lib.hid (show M2.ends.length ≤ 4096 by rw [HM2.out]; exact HEL.out)
  have hrow := H2.out.row
  unfold rowM at hrow
  have hlog := H2.out.log
  obtain ⟨LA, lc, hlv⟩ := own_forms hlog
  obtain ⟨ln, hln⟩ : ∃ n, n = (logOf M2 pl).length := ⟨_, rfl⟩
  rw [← hln] at hlv
  have hlnb : ln ≤ 4096 := by rw [hln]; unfold logOf; rw [List.length_map]; exact HEL.out
  have LROW := Lib.hid hrow
  have LOG := Lib.hid hlog
  have ARW := Lib.hid A2.out.row
  rw [hlv] at LROW LOG
  have HLN := Lib.hid hln
  have HLV := Lib.hid hlv
  have TX := Lib.hid (show logC ({ r with fin := clk, ret := clk, status := 0 }, (plAt pl j).ov) = [.int .i64 x0, .int .i64 x1, .int .i64 x2, .int .i64 clk, .int .i64 x4, .int .i64 clk, .int .i64 0, ov] by unfold logC txnC; rw [← HQB.out]; simp only [HX0.out, HX1.out, HX2.out, HX4.out, HOV.out])
  have ALT := Lib.hid (RowAt.drew LROW.out)
  have ALC := Lib.hid (ALT.out.alloc (.cells #[.int .i64 x0, .int .i64 x1, .int .i64 x2, .int .i64 clk, .int .i64 x4, .int .i64 clk, .int .i64 0, ov] 55))
  have AOA := Lib.hid ((Own.drawn LOG.out).alloc (.cells #[.int .i64 x0, .int .i64 x1, .int .i64 x2, .int .i64 clk, .int .i64 x4, .int .i64 clk, .int .i64 0, ov] 55))
  have ARB := Lib.hid (show RowAt (W2.drew.alloc (.cells #[.int .i64 x0, .int .i64 x1, .int .i64 x2, .int .i64 clk, .int .i64 x4, .int .i64 clk, .int .i64 0, ov] 55)) W2.heap.size 55 (logC ({ r with fin := clk, ret := clk, status := 0 }, (plAt pl j).ov)) by rw [TX.out]; exact RowAt.new W2.drew 55 _)
  have ANB := Lib.hid (show (Value.slice LA ln lc).ownBlock ≠ some m from own_far AOA.out ALC.out (by decide))
  have ANQ := Lib.hid (show (Value.slice LA ln lc).ownBlock ≠ some qb from own_far LOG.out ARW.out (by decide))
  have ARC := Lib.hid ((RowAt.drew ARW.out).alloc (.cells #[.int .i64 x0, .int .i64 x1, .int .i64 x2, .int .i64 clk, .int .i64 x4, .int .i64 clk, .int .i64 0, ov] 55))
  have ASL := Lib.hid (show ln + 1 ≤ maxLen ∧ (ln + 1) * 80 ≤ 140737488355328 by unfold maxLen; omega)
  have hal : ∀ x, (W2.alloc x).cell? ⟨m, 5, none⟩ = some (.slice LA ln lc) := fun x => (LROW.out.alloc x).cell 5
  have e5 := LROW.out.cell 5
  have d0 := ARW.out.cell 0
  have d1 := ARW.out.cell 1
  have d2 := ARW.out.cell 2
  have d3 := ARW.out.cell 3
  have d4 := ARW.out.cell 4
  have d5 := ARW.out.cell 5
  have d6 := ARW.out.cell 6
  have d7 := ARW.out.cell 7
  simp only [actC, HX0.out, HX1.out, HX2.out, HX4.out, List.getElem?_cons_zero, List.getElem?_cons_succ] at e5 d0 d1 d2 d3 d4 d5 d6 d7
  clear hrow hlog hln hlv
  go_wp2_with fail
  go_region_law
    ((refine push_step logC 55 44 55 (.agg #[.int .i64 0, .int .i64 0, .int .i64 0, .int .i64 0, .int .i64 0, .int .i64 0, .int .i64 0, .slice none 0 0]) 8 80 Try.underlying44 (by kernel_rfl) rfl (by decide) logC_len logC_one _ _ (by rfl) (by rfl) 0 (.slice LA ln lc) (logOf M2 pl) ({ r with fin := clk, ret := clk, status := 0 }, (plAt pl j).ov) (by rfl) AOA.out W2.heap.size 1 (by rfl) ARB.out (by rw [← HLN.out]; exact ASL.out.1) (by rw [← HLN.out]; exact ASL.out.2) (Nat.zero_le _) (W2.heap.size + 1) (by simp) ?_; intro g5 cap5 w3 o3 g3 l3 l4; have O3 := Lib.hid o3; have MD := Lib.hid (grown_far g3 ANB.out ALC.out); have RD := Lib.hid (grown_far g3 ANQ.out ARC.out); have T3 := Lib.hid ((Turn.refl (fun i => (Value.slice LA ln lc).ownBlock = some i) _).grown g3 fun i hi => .inl hi); have L3 := Lib.hid l3; have L4 := Lib.hid l4; have qf := MD.out.frozen 5; have qc := MD.out.cell 5; simp only [List.getElem?_cons_zero, List.getElem?_cons_succ] at qc; clear o3 g3 l3 l4))
  all_goals
    have lrow : RowAt (w3.setCell ⟨m, 5, none⟩ (.slice (some ⟨g5, 0, none⟩) ((logOf M2 pl).length + 1) cap5)) m 73 (rowM M2 gs p (.slice (some ⟨g5, 0, none⟩) ((logOf M2 pl).length + 1) cap5)) := (MD.out.set 5 _).congr rfl
    have lown : Own (w3.setCell ⟨m, 5, none⟩ (.slice (some ⟨g5, 0, none⟩) ((logOf M2 pl).length + 1) cap5)) 0 55 8 logC (.slice (some ⟨g5, 0, none⟩) ((logOf M2 pl).length + 1) cap5) (logOf M2 pl ++ [({ r with fin := clk, ret := clk, status := 0 }, (plAt pl j).ov)]) :=
      Own.turn (S := fun k => k = m) O3.out (Turn.setCell (S := fun k => k = m) (p := ⟨m, 5, none⟩) (Turn.refl _ _) (.inl rfl) _) fun g hg e => own_far O3.out MD.out (by decide) (by rw [← e]; exact hg)
    have ltn : Turn (fun k => k = m ∨ lv.ownBlock = some k) W2 (w3.setCell ⟨m, 5, none⟩ (.slice (some ⟨g5, 0, none⟩) ((logOf M2 pl).length + 1) cap5)) := by
      rw [HLV.out]
      exact ((((Turn.refl (fun k => k = m ∨ (Value.slice LA ln lc).ownBlock = some k) W2).drew).alloc _).trans (T3.out.mono fun _ _ e => .inr e)).setCell (p := ⟨m, 5, none⟩) (.inl (.inl rfl)) _
    have lloc : ∀ g, (Value.slice (some ⟨g5, 0, none⟩) ((logOf M2 pl).length + 1) cap5).ownBlock = some g → lv.ownBlock = some g ∨ W2.heap.size ≤ g := fun g hg => by
      have e : g5 = g := by simpa [Value.ownBlock] using hg
      subst e
      rw [HLV.out]
      exact L3.out.imp id fun e => by omega
    have HFIN := Lib.hid (H2.out.setLog j ltn lrow (by rw [show M2.all.getD j Run.zero = { r with fin := clk, ret := clk, status := 0 } from HGD.out]; exact lown) lloc)
    have LTN := Lib.hid ltn
    have LLOC := Lib.hid lloc
    have r6 := (RD.out.far (p := ⟨m, 5, none⟩) (fun e => MD.out.ne RD.out (by decide) e.symm) (.slice (some ⟨g5, 0, none⟩) ((logOf M2 pl).length + 1) cap5)).cell 6
    simp only [actC, List.getElem?_cons_zero, List.getElem?_cons_succ] at r6
    clear lrow lown ltn lloc qf qc hal d0 d1 d2 d3 d4 d5 d6 d7 e5
    go_wp2_with fail
    go_ret
    have hz1 := T1.out.size
    have hz2 := T2.out.size
    have hfe : { M2 with ends := M2.ends ++ [j] } = finF M s j false := by rw [HM2.out]; unfold finF; rw [HSQ.out, HGD0.out, ← HCL.out]; rfl
    refine ⟨rfl, _, Fs, hfe ▸ HFIN.out.mono (Nat.le_add_right _ _), MF.setLog (fun g hg => (LLOC.out g hg).imp id fun h => by omega) (fun i hi => .inl hi), ?_⟩
    exact ((T1.out.mono fun k _ e => .inr (.inl e)).trans (T2.out.mono fun k _ e => .inr (.inr (.inr (.inr ⟨j, _, PQ.out, e⟩))))).trans (LTN.out.mono fun k _ e => e.elim (fun e => .inl e) fun e => .inr (.inr (.inl e)))

end Go.Proofs.Ytfodagidmdbmlaa
