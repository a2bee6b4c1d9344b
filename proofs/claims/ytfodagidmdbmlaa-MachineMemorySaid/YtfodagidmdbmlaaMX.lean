/- finish: a commit. -/
import Derived.Test.YtfodagidmdbmlaaMW
namespace Go.Proofs.Ytfodagidmdbmlaa
set_option linter.unusedVariables false
set_option linter.unusedSimpArgs false
open Go.RowKit

theorem zero_int (w : World) : (zeroValue 3).run Try.prog w = .ok (.int .i64 0) w := by kernel_rfl
set_option maxRecDepth 100000 in
set_option maxHeartbeats 8000000 in
theorem finish_yes (m : Nat) (M : Mach) (gs p : Nat) (lv : Value) (pl : List Pl) (Fs : Nat → Prop) (N s j : Nat) (sq : Int) (w : World) (h : MachAt w m M gs p lv pl Fs N) (hi : MInv M) (hx : M.sess[s]? = some (some j, sq)) (hj : j ∉ M.ends) (hel : M.ends.length ≤ 4096) (hN : N < 2900000000000) :
    Calls Try.prog 35 #[.pointer (some ⟨m, 0, none⟩), .pointer (some ⟨gs, s * 2, none⟩), .bool true] w (FinPost w m M gs p lv pl Fs N s j true) := by
  obtain ⟨r, hr, -⟩ := hi.now s j sq hx
  have HX := Lib.hid hx
  obtain ⟨pq, pa⟩ := h.place hr
  have hgd : M.all.getD j Run.zero = r := by rw [List.getD_eq_getElem?_getD, hr]; rfl
  have hsq : (M.sess.getD s (none, 0)).2 = sq := by rw [List.getD_eq_getElem?_getD, hx]; rfl
  have H := Lib.hid h
  have HI := Lib.hid hi
  have HR := Lib.hid hr
  have HJ := Lib.hid hj
  have HEL := Lib.hid hel
  have HGD0 := Lib.hid hgd
  have HSQ := Lib.hid hsq
  have PQ := Lib.hid pq
  obtain ⟨⟨qb, ov, sv⟩, hqb⟩ : ∃ z, z = plAt pl j := ⟨_, rfl⟩
  rw [← hqb] at pa pq
  have HQB := Lib.hid hqb
  have PA := Lib.hid pa
  have hov : sliceOf ov = ov := by
    obtain ⟨A, c, e⟩ := own_forms pa.ops
    simp only at e
    rw [e]
    rfl
  have HOV := Lib.hid hov
  have PQ := Lib.hid pq
  obtain ⟨x0, hx0⟩ : ∃ n, n = r.session := ⟨_, rfl⟩
  obtain ⟨x1, hx1⟩ : ∃ n, n = r.seq := ⟨_, rfl⟩
  obtain ⟨x2, hx2⟩ : ∃ n, n = r.start := ⟨_, rfl⟩
  obtain ⟨x4, hx4⟩ : ∃ n, n = r.invoke := ⟨_, rfl⟩
  obtain ⟨clk, hclk⟩ : ∃ n, n = M.clock := ⟨_, rfl⟩
  have HX0 := Lib.hid hx0.symm
  have HX1 := Lib.hid hx1.symm
  have HX2 := Lib.hid hx2.symm
  have HX4 := Lib.hid hx4.symm
  have HCL := Lib.hid hclk
  have s0 := (h.sess hx).1
  simp only [Option.map_some] at s0
  rw [← hqb] at s0
  simp only at s0
  have sf := h.ses.frozen (s * 2)
  -- the session's cell
  have t1 : Turn (fun i => i = gs) w (w.setCell ⟨gs, s * 2, none⟩ (.pointer none)) := Turn.setCell (S := fun i => i = gs) (p := ⟨gs, s * 2, none⟩) (Turn.refl _ _) (.inl rfl) _
  have h1 := h.setSess s (none, sq) t1 ((h.ses.set (s * 2) (.pointer none)).congr (sess_now hx none))
  obtain ⟨W1, hW1⟩ : ∃ WW : World, WW = w.setCell ⟨gs, s * 2, none⟩ (.pointer none) := ⟨_, rfl⟩
  rw [← hW1] at t1 h1
  have T1 := Lib.hid t1
  have H1 := Lib.hid h1
  have HW1 := Lib.hid hW1
  obtain ⟨pq1, pa1⟩ := h1.place (show ({ M with sess := M.sess.set s (none, sq) } : Mach).all[j]? = some r from hr)
  rw [← hqb] at pa1
  have PA1 := Lib.hid pa1
  -- the transaction's cells
  have u3 := pa1.row.cell
  have uf := pa1.row.frozen
  simp only [actC] at u3
  have m1 := h1.row.cell 1
  simp only [rowM, List.getElem?_cons_zero, List.getElem?_cons_succ] at m1
  rw [← hclk] at m1
  have hne : qb ≠ m := pa1.row.ne h1.row (by decide)
  clear h hi hx hr hj hel hgd hsq pq pa hqb hov hx0 hx1 hx2 hx4 hclk t1 h1 hW1 pq1 pa1
  go_enter Try.func35, Try.ntmps35
  go_wp2_with fail
  rw [← HW1.out]
  go_region
  have t2 : Turn (fun k => k = qb ∨ ov.ownBlock = some k ∨ sv.ownBlock = some k) W1 (((W1.setCell ⟨qb, 3, none⟩ (.int .i64 clk)).setCell ⟨qb, 5, none⟩ (.int .i64 clk)).setCell ⟨qb, 6, none⟩ (.int .i64 0)).drew := (((Turn.setCell (S := fun k => k = qb ∨ ov.ownBlock = some k ∨ sv.ownBlock = some k) (p := ⟨qb, 3, none⟩) (Turn.refl _ _) (.inl (.inl rfl)) _).setCell (p := ⟨qb, 5, none⟩) (.inl (.inl rfl)) _).setCell (p := ⟨qb, 6, none⟩) (.inl (.inl rfl)) _).drew
  have t2s : Turn (fun k => k = qb) W1 (((W1.setCell ⟨qb, 3, none⟩ (.int .i64 clk)).setCell ⟨qb, 5, none⟩ (.int .i64 clk)).setCell ⟨qb, 6, none⟩ (.int .i64 0)).drew := (((Turn.setCell (S := fun k => k = qb) (p := ⟨qb, 3, none⟩) (Turn.refl _ _) (.inl rfl) _).setCell (p := ⟨qb, 5, none⟩) (.inl rfl) _).setCell (p := ⟨qb, 6, none⟩) (.inl rfl) _).drew
  have a2 : AAt (((W1.setCell ⟨qb, 3, none⟩ (.int .i64 clk)).setCell ⟨qb, 5, none⟩ (.int .i64 clk)).setCell ⟨qb, 6, none⟩ (.int .i64 0)).drew { r with fin := clk, ret := clk, status := 0 } ⟨qb, ov, sv⟩ j :=
    ⟨RowAt.drew ((((PA1.out.row.set 3 _).set 5 _).set 6 _).congr rfl), Own.turn PA1.out.ops t2s (fun g hg e => own_far PA1.out.ops PA1.out.row (by decide) (by rw [← e]; exact hg)), Own.turn PA1.out.tms t2s (fun g hg e => own_far PA1.out.tms PA1.out.row (by decide) (by rw [← e]; exact hg))⟩
  have h2 := H1.out.setAct PQ.out { r with fin := clk, ret := clk, status := 0 } rfl t2 a2 (fun g hg => .inl hg) (fun g hg => .inl hg) HJ.out
  rw [set_self PQ.out] at h2
  obtain ⟨W2, hW2⟩ : ∃ WW : World, WW = (((W1.setCell ⟨qb, 3, none⟩ (.int .i64 clk)).setCell ⟨qb, 5, none⟩ (.int .i64 clk)).setCell ⟨qb, 6, none⟩ (.int .i64 0)).drew := ⟨_, rfl⟩
  rw [← hW2] at t2 a2 h2 ⊢
  obtain ⟨M2, hM2⟩ : ∃ X : Mach, X = { M with sess := M.sess.set s (none, sq), all := M.all.set j { r with fin := clk, ret := clk, status := 0 } } := ⟨_, rfl⟩
  have HM2 := Lib.hid hM2
  have H2 := Lib.hid (show MachAt W2 m M2 gs p lv pl Fs N by rw [hM2]; exact h2)
  have A2 := Lib.hid a2
  have T2 := Lib.hid t2
  have HW2 := Lib.hid hW2
  clear hW2 t2 t2s a2 h2 hM2 u3 uf m1 s0 sf
  -- the status
  have u6 := A2.out.row.cell 6
  have uf6 := A2.out.row.frozen 6
  simp only [actC, List.getElem?_cons_zero, List.getElem?_cons_succ] at u6
  have t3 : Turn (fun k => k = qb ∨ ov.ownBlock = some k ∨ sv.ownBlock = some k) W2 (W2.setCell ⟨qb, 6, none⟩ (.int .i64 1)) := Turn.setCell (S := fun k => k = qb ∨ ov.ownBlock = some k ∨ sv.ownBlock = some k) (p := ⟨qb, 6, none⟩) (Turn.refl _ _) (.inl (.inl rfl)) _
  have t3s : Turn (fun k => k = qb) W2 (W2.setCell ⟨qb, 6, none⟩ (.int .i64 1)) := Turn.setCell (S := fun k => k = qb) (p := ⟨qb, 6, none⟩) (Turn.refl _ _) (.inl rfl) _
  have a3 : AAt (W2.setCell ⟨qb, 6, none⟩ (.int .i64 1)) { r with fin := clk, ret := clk, status := 1 } ⟨qb, ov, sv⟩ j :=
    ⟨(A2.out.row.set 6 _).congr rfl, Own.turn A2.out.ops t3s (fun g hg e => own_far A2.out.ops A2.out.row (by decide) (by rw [← e]; exact hg)), Own.turn A2.out.tms t3s (fun g hg e => own_far A2.out.tms A2.out.row (by decide) (by rw [← e]; exact hg))⟩
  have h3 := H2.out.setAct PQ.out { r with fin := clk, ret := clk, status := 1 } rfl t3 a3 (fun g hg => .inl hg) (fun g hg => .inl hg) (by rw [HM2.out]; exact HJ.out)
  rw [set_self PQ.out] at h3
  obtain ⟨W3, hW3⟩ : ∃ WW : World, WW = W2.setCell ⟨qb, 6, none⟩ (.int .i64 1) := ⟨_, rfl⟩
  rw [← hW3] at t3 a3 h3
  obtain ⟨M3, hM3⟩ : ∃ X : Mach, X = { M2 with all := M2.all.set j { r with fin := clk, ret := clk, status := 1 } } := ⟨_, rfl⟩
  have HM3 := Lib.hid hM3
  have H3 := Lib.hid (show MachAt W3 m M3 gs p lv pl Fs N by rw [hM3]; exact h3)
  have A3 := Lib.hid a3
  have T3' := Lib.hid t3
  have HW3 := Lib.hid hW3
  have HA3 := Lib.hid (show M3.all[j]? = some { r with fin := clk, ret := clk, status := 1 } by
    rw [HM3.out, HM2.out]
    show ((M.all.set j _).set j _)[j]? = _
    rw [List.getElem?_set, if_pos rfl, if_pos (by rw [List.length_set]; exact (List.getElem?_eq_some_iff.1 HR.out).1)])
  have HG3 := Lib.hid (show M3.all.getD j Run.zero = { r with fin := clk, ret := clk, status := 1 } by rw [List.getD_eq_getElem?_getD, HA3.out]; rfl)
  have HS3 := Lib.hid (show M3.st = M.st by rw [HM3.out, HM2.out])
  have HC3 := Lib.hid (show M3.clock = clk by rw [HM3.out, HM2.out]; exact HCL.out.symm)
  clear hW3 t3 t3s a3 h3 hM3
  -- the map
  have hmm := @run_makeMap Try.prog
  obtain ⟨dm, hdm⟩ : ∃ d, d = W3.heap.size := ⟨_, rfl⟩
  have D4 := Lib.hid (show MAt Try.prog 9 (W3.alloc (.map #[] 0)) dm 0 (doneF r 0) by
    rw [hdm]
    exact MAt.new Try.prog 9 W3)
  have hb4 := (Below.refl W3.heap.size W3).alloc (Nat.le_refl _) (.map #[] 0)
  have H4 := Lib.hid (H3.out.below hb4)
  have HFD := Lib.hid (show ¬ Fs dm from fun hh => by have := H3.out.mf_lt dm (.inr (.inr (.inr (.inl hh)))); omega)
  have HT3 := Lib.hid (show Turn (MF m gs lv pl Fs) w W3 from (T1.out.mono fun k _ e => .inr (.inl e)).trans ((T2.out.mono fun k _ e => .inr (.inr (.inr (.inr ⟨j, _, PQ.out, e⟩)))).trans (T3'.out.mono fun k _ e => .inr (.inr (.inr (.inr ⟨j, _, PQ.out, e⟩))))))
  have HT4 := Lib.hid (HT3.out.alloc (.map #[] 0))
  have HDM := Lib.hid hdm
  obtain ⟨A, c, hov2⟩ := own_forms A3.out.ops
  simp only at hov2
  obtain ⟨n, hn⟩ : ∃ n, n = r.ops.length := ⟨_, rfl⟩
  rw [← hn] at hov2
  have hn16 := (HI.out.ops j r HR.out).1
  rw [← hn] at hn16
  have HN := Lib.hid hn
  have HOV2 := Lib.hid hov2
  have c7 := (A3.out.below hb4).row.cell 7
  simp only [actC, List.getElem?_cons_zero, List.getElem?_cons_succ] at c7
  rw [hov2] at c7
  have c7' : ((W2.setCell ⟨qb, 6, none⟩ (.int .i64 1)).alloc (.map #[] 0)).cell? ⟨qb, 7, none⟩ = some (.slice A n c) := by rw [← HW3.out]; exact c7
  have HDM2 := Lib.hid (show dm = W2.heap.size by rw [HDM.out, HW3.out]; simp)
  have HOPK := Lib.hid (HI.out.keys j r HR.out)
  have HTL := Lib.hid (HI.out.ops j r HR.out)
  clear hdm hb4 hn hov2
  clear c7
  go_wp2_with fail
  rw [← HW3.out, ← HDM2.out]
  clear c7'
  go_loopw [53] (fun ix wr => ∃ (i dn : Nat) (Fsi : Nat → Prop), i ≤ n ∧ ix = .int .i64 i ∧ dn ≤ i ∧ Hid (MachAt wr m { M3 with st := instN M.st clk j r i } gs p lv pl Fsi (N + i)) ∧ Hid (∀ x, Fsi x → Fs x ∨ w.heap.size ≤ x) ∧ Hid (Turn (MF m gs lv pl Fs) w wr) ∧ Hid (MAt Try.prog 9 wr dm dn (doneF r i)) ∧ Hid (¬ Fsi dm)) (fun ix _ => n - (intOf ix).toNat)
  case atStart => exact ⟨0, 0, Fs, by omega, rfl, by omega, Lib.hid (show MachAt _ m { M3 with st := instN M.st clk j r 0 } gs p lv pl Fs (N + 0) by show MachAt _ m { M3 with st := M.st } gs p lv pl Fs N; rw [← HS3.out]; exact H4.out), fun x hx => .inl hx, HT4.out, D4.out, HFD.out⟩
  case round =>
    obtain ⟨i, dn, Fsi, hile, rfl, hdn, HM, HF, HTW, HMD, HND⟩ := hrel
    have HPA := Lib.hid (HM.out.place (show ({ M3 with st := instN M.st clk j r i } : Mach).all[j]? = some _ from HA3.out)).2
    rw [← HQB.out, HOV2.out] at HPA
    by_cases hlt : i < n
    · obtain ⟨g, x, hg, hx, x0', x1', x2', x3'⟩ := own_op HPA.out.ops (i := i) (by show i < r.ops.length; rw [← HN.out]; exact hlt)
      subst hg
      simp only at hx
      have HX5 := Lib.hid hx
      have HKX := Lib.hid (HOPK.out x (List.mem_of_getElem? hx))
      obtain ⟨kd, ky, fd, va⟩ := x
      simp only at x0' x1' x2' x3'
      have HKB := Lib.hid (show ky.size ≤ maxLen by have := HKX.out.1.2; unfold maxLen; exact Nat.le_trans this (by decide))
      have hbx := (Below.refl wr.heap.size wr).alloc (Nat.le_refl _) (.cells #[.int .i64 kd, .string ky, .bool fd, .string va] 67)
      have rbx := RowAt.new wr 67 [.int .i64 kd, .string ky, .bool fd, .string va]
      obtain ⟨W5, hW5⟩ : ∃ WW : World, WW = wr.alloc (.cells #[.int .i64 kd, .string ky, .bool fd, .string va] 67) := ⟨_, rfl⟩
      rw [show (Obj.cells (List.toArray [.int .i64 kd, .string ky, .bool fd, .string va]) 67) = .cells #[.int .i64 kd, .string ky, .bool fd, .string va] 67 from rfl, ← hW5] at rbx
      have z0 := rbx.cell 0
      have z1 := rbx.cell 1
      simp only [List.getElem?_cons_zero, List.getElem?_cons_succ] at z0 z1
      rw [hW5] at z0 z1
      rw [← hW5] at hbx
      obtain ⟨bx, hbxx⟩ : ∃ g, g = wr.heap.size := ⟨_, rfl⟩
      rw [← hbxx] at rbx
      have hi0 : (0 : Int) ≤ (i : Int) := by omega
      have hi1 : (i : Int) < (n : Int) := by omega
      have HM5 := Lib.hid (HM.out.below hbx)
      have HTW5 := Lib.hid (HTW.out.trans (Turn.of_below (hbx.mono (Nat.le_refl _)) _))
      have HMD5 := Lib.hid (HMD.out.turn (Turn.of_below hbx (fun _ => False)) id)
      have RX5 := Lib.hid rbx
      have HW5 := Lib.hid hW5
      have HBX := Lib.hid hbxx
      have hwz : w.heap.size ≤ wr.heap.size := HTW.out.size
      clear hbx rbx hW5 hx hbxx
      by_cases k1 : kd = 1
      · have HI5 := Lib.hid (instN_read (st := M.st) (c := clk) (j := j) HX5.out k1)
        have HD5 := Lib.hid (show doneF r (i + 1) = doneF r i by
          funext k
          unfold doneF
          rw [countN_no HX5.out (by unfold wrote; simp [k1])])
        subst k1
        go_wp2_with fail
        rw [← HW5.out]
        refine ⟨⟨i + 1, dn, Fsi, by omega, rfl, by omega, Lib.hid ?_, HF, HTW5, Lib.hid ?_, HND⟩, by show n - ((i : Int) + 1).toNat < n - (i : Int).toNat; omega⟩
        · rw [HI5.out]
          exact HM5.out.mono (by omega)
        · rw [HD5.out]
          exact HMD5.out
      · have k2 : (kd == 1) = false := by simpa using k1
        obtain ⟨cn, hcn⟩ : ∃ z, z = countN r ky i := ⟨_, rfl⟩
        have hcl : cn ≤ i := by rw [hcn]; exact countN_le r ky i
        have HCN := Lib.hid hcn
        clear hcn
        have HDV := Lib.hid (show (doneF r i ky).getD (.int .i64 0) = .int .i64 cn by
          unfold doneF
          rw [← HCN.out]
          by_cases e : cn = 0
          · rw [if_pos e, e]; rfl
          · rw [if_neg e]; rfl)
        have hlk := HMD5.out.lookup (T := 109) (E := 3) Try.underlying9 Try.underlying109 (zero_int W5) HKB.out
        rw [HDV.out] at hlk
        have hw1 : IntKind.i64.wrap ((cn : Int) + 1) = (cn : Int) + 1 := wrap_in (by omega) (by omega)
        have hdnm : dn < maxLen := by unfold maxLen; omega
        obtain ⟨W6, hmu, m6, g6⟩ := HMD5.out.update (T := 109) (E := 3) Try.underlying9 Try.underlying109 hdnm HKB.out (.int .i64 ((cn : Int) + 1))
        have HT6 := Lib.hid ((Turn.refl (fun k => k = dm) W5).grown g6 fun k hk => .inl (Option.some.inj hk).symm)
        have HMD6 := Lib.hid (show MAt Try.prog 9 W6 dm (dn + 1) (doneF r (i + 1)) by
          have e : (fun k' => if k' = ky then some (Value.int .i64 ((cn : Int) + 1)) else doneF r i k') = doneF r (i + 1) := by
            funext k'
            unfold doneF
            by_cases e : k' = ky
            · subst e
              rw [if_pos rfl, countN_yes HX5.out (by unfold wrote; simp [k2]), ← HCN.out, if_neg (by omega)]
              rfl
            · rw [if_neg e, countN_no HX5.out (by
                unfold wrote
                simp only [k2, Bool.not_false, Bool.true_and]
                exact beq_eq_false_iff_ne.2 fun h => e (bytes_eq h).symm)]
          rw [← e]
          exact m6)
        have hlk2 := HMD6.out.lookup (T := 109) (E := 3) Try.underlying9 Try.underlying109 (zero_int W6) HKB.out
        have HDV2 := Lib.hid (show (doneF r (i + 1) ky).getD (.int .i64 0) = .int .i64 ((cn : Int) + 1) by
          unfold doneF
          rw [countN_yes HX5.out (by unfold wrote; simp [k2]), ← HCN.out, if_neg (by omega)]
          rfl)
        rw [HDV2.out] at hlk2
        have hdr : dm ≠ bx := fun e => HMD5.out.ne RX5.out e.symm
        have RX6 := Lib.hid (RX5.out.turn HT6.out (fun e => hdr e.symm))
        have y1 := RX6.out.cell 1
        simp only [List.getElem?_cons_zero, List.getElem?_cons_succ] at y1
        rw [HBX.out] at y1
        have HM6 := Lib.hid (HM5.out.turn HT6.out fun k hk e => HM5.out.map_far HMD5.out HND.out k hk e)
        have HTW6 := Lib.hid (HTW5.out.then HT6.out (fun k hk e => by exfalso; have h1 := HDM.out; have h2 := HT3.out.size; omega))
        rw [HW5.out] at hlk hmu
        clear m6 g6
        by_cases c0 : cn = 0
        · have hq : (((cn : Int) + 1) == 1) = true := by rw [c0]; rfl
          have HI5 := Lib.hid (instN_first (st := M.st) (c := clk) (j := j) HX5.out k1 (by rw [← HCN.out]; exact c0))
          obtain ⟨⟨lok, lt, lb⟩, hlv⟩ : ∃ z, z = lastV r ky := ⟨_, rfl⟩
          obtain ⟨lkd, lky, lfd, lva⟩ := lok
          have HLV := Lib.hid (show lastR (lastV { r with fin := clk, ret := clk, status := 1 } ky) = .tuple #[.agg #[.int .i64 lkd, .string lky, .bool lfd, .string lva], .int .i64 lt, .bool lb] by
            show lastR (lastV r ky) = _
            rw [← hlv]; rfl)
          have HLE := Lib.hid (show leaves clk j r ky = ⟨clk, j, lfd, lva⟩ by unfold leaves; rw [← hlv])
          have HPA6 := Lib.hid (HM6.out.place (show ({ M3 with st := instN M.st clk j r i } : Mach).all[j]? = some _ from HA3.out)).2
          rw [← HQB.out, HOV2.out] at HPA6
          clear hlv c0
          go_wp2_with fail
          refine (last_any { r with fin := clk, ret := clk, status := 1 } ⟨qb, .slice (some ⟨g, 0, none⟩) n c, sv⟩ j ky _ HPA6.out HTL.out.1 HTL.out.2).mono ?_
          rintro e w7 ⟨he, b7⟩
          rw [HLV.out] at he
          subst he
          have hb8 := (Below.refl w7.heap.size w7).alloc (Nat.le_refl _) (.cells #[.int .i64 lkd, .string lky, .bool lfd, .string lva] 67)
          have rb8 := RowAt.new w7 67 [.int .i64 lkd, .string lky, .bool lfd, .string lva]
          obtain ⟨W8, hW8⟩ : ∃ WW : World, WW = w7.alloc (.cells #[.int .i64 lkd, .string lky, .bool lfd, .string lva] 67) := ⟨_, rfl⟩
          rw [show (Obj.cells (List.toArray [.int .i64 lkd, .string lky, .bool lfd, .string lva]) 67) = .cells #[.int .i64 lkd, .string lky, .bool lfd, .string lva] 67 from rfl, ← hW8] at rb8
          rw [← hW8] at hb8
          obtain ⟨bo, hbo⟩ : ∃ g, g = w7.heap.size := ⟨_, rfl⟩
          rw [← hbo] at rb8
          have hb68 := b7.trans (hb8.mono b7.size)
          have HM8 := Lib.hid (HM6.out.below hb68)
          have HTW8 := Lib.hid (HTW6.out.trans (Turn.of_below hb68 _))
          have HMD8 := Lib.hid (HMD6.out.turn (Turn.of_below hb68 (fun _ => False)) id)
          have RX8 := Lib.hid (RX6.out.below hb68)
          have HPA8 := Lib.hid (HPA6.out.below hb68)
          have RB8 := Lib.hid rb8
          have HW8 := Lib.hid hW8
          have HBO := Lib.hid hbo
          have hwz8 : w.heap.size ≤ W8.heap.size := HTW8.out.size
          have hdm8 : dm < W8.heap.size := HMD8.out.lt
          have hfl : ∀ x, Fsi x → x < wr.heap.size := fun x hx => HM.out.mf_lt x (.inr (.inr (.inr (.inl hx))))
          have hwr : wr.heap.size ≤ w7.heap.size := by
            have h1 := HT6.out.size
            have h2 := b7.size
            have h3 : wr.heap.size ≤ W5.heap.size := by rw [HW5.out]; simp
            omega
          have NF := Lib.hid (show ¬ Fsi m ∧ ¬ Fsi qb ∧ ¬ Fsi bx ∧ ¬ Fsi bo from ⟨fun hh => (HM8.out.far _ hh).1 rfl, fun hh => ((HM8.out.far _ hh).2.2.2 j _ PQ.out).1 rfl, fun hh => by have := hfl _ hh; have := HBX.out; omega, fun hh => by have := hfl _ hh; omega⟩)
          clear b7 hb8 rb8 hW8 hbo hb68 y1 hmu hlk hlk2
          go_wp2_with fail
          rw [← HW8.out, ← HBO.out, ← HBX.out]
          have v1 := HM8.out.row.cell 1
          have v4 := HM8.out.row.cell 4
          have v9 := HPA8.out.row.cell 9
          have vx := RX8.out.cell 1
          have v2 := RB8.out.cell 2
          have v3 := RB8.out.cell 3
          simp only [rowM, actC, List.getElem?_cons_zero, List.getElem?_cons_succ] at v1 v4 v9 vx v2 v3
          rw [HC3.out] at v1
          have HD8 := Lib.hid (Turn.refl (fun _ => False) W8).drew
          have HMD8' := Lib.hid (HM8.out.turn HD8.out (fun _ _ h => h))
          have q0 : (W8.drew.cell? ⟨m, 4, none⟩ = some (.pointer (some ⟨p, 0, none⟩)) ∧ W8.drew.cell? ⟨m, 1, none⟩ = some (.int .i64 clk) ∧ W8.drew.cell? ⟨bx, 1, none⟩ = some (.string ky) ∧ W8.drew.cell? ⟨qb, 9, none⟩ = some (.int .i64 j) ∧ W8.drew.cell? ⟨bo, 2, none⟩ = some (.bool lfd) ∧ W8.drew.cell? ⟨bo, 3, none⟩ = some (.string lva)) := ⟨v4, v1, vx, v9, v2, v3⟩
          go_region_held3 (fun w' => (w'.cell? ⟨m, 4, none⟩ = some (.pointer (some ⟨p, 0, none⟩)) ∧ w'.cell? ⟨m, 1, none⟩ = some (.int .i64 clk) ∧ w'.cell? ⟨bx, 1, none⟩ = some (.string ky) ∧ w'.cell? ⟨qb, 9, none⟩ = some (.int .i64 j) ∧ w'.cell? ⟨bo, 2, none⟩ = some (.bool lfd) ∧ w'.cell? ⟨bo, 3, none⟩ = some (.string lva)))
            (first | with_reducible exact q1 | with_reducible exact q0 | with_reducible exact ⟨v4, v1, vx, v9, v2, v3⟩)
            (first
              | (go_at_call 48; refine (install_play Fsi p (N + i) (instN M.st clk j r i) ky ⟨clk, j, lfd, lva⟩ _ HMD8'.out.sto HKB.out (by omega)).mono ?_; rintro e w9 ⟨rfl, F9, s9, f9, t9⟩; have S9 := Lib.hid s9; have F9' := Lib.hid f9; have T9 := Lib.hid t9; have q1 : (w9.cell? ⟨m, 4, none⟩ = some (.pointer (some ⟨p, 0, none⟩)) ∧ w9.cell? ⟨m, 1, none⟩ = some (.int .i64 clk) ∧ w9.cell? ⟨bx, 1, none⟩ = some (.string ky) ∧ w9.cell? ⟨qb, 9, none⟩ = some (.int .i64 j) ∧ w9.cell? ⟨bo, 2, none⟩ = some (.bool lfd) ∧ w9.cell? ⟨bo, 3, none⟩ = some (.string lva)) := ⟨(HMD8'.out.row.turn t9 NF.out.1).cell 4, by have := (HMD8'.out.row.turn t9 NF.out.1).cell 1; rw [← HC3.out]; exact this, ((RowAt.drew RX8.out).turn t9 NF.out.2.2.1).cell 1, ((RowAt.drew HPA8.out.row).turn t9 NF.out.2.1).cell 9, ((RowAt.drew RB8.out).turn t9 NF.out.2.2.2).cell 2, ((RowAt.drew RB8.out).turn t9 NF.out.2.2.2).cell 3⟩; clear s9 f9 t9))
          go_wp2_with fail
          refine ⟨⟨i + 1, dn + 1, F9, by omega, rfl, by omega, Lib.hid ?_, Lib.hid ?_, Lib.hid ?_, Lib.hid ?_, Lib.hid ?_⟩, by show n - ((i : Int) + 1).toNat < n - (i : Int).toNat; omega⟩
          · rw [HI5.out, HLE.out]
            exact HMD8'.out.setStore (play1 (instN M.st clk j r i) ky ⟨clk, j, lfd, lva⟩) T9.out S9.out F9'.out
          · intro x hx
            rcases F9'.out x hx with h | h
            · exact HF.out x h
            · exact .inr (Nat.le_trans hwz8 h)
          · exact HTW8.out.drew.then T9.out fun k hk hh => by
              rcases HF.out k hh with h | h
              · exact .inr (.inr (.inr (.inl h)))
              · omega
          · exact (HMD8.out.turn HD8.out id).turn T9.out HND.out
          · intro hh
            rcases F9'.out dm hh with h | h
            · exact HND.out h
            · exact absurd (Nat.lt_of_lt_of_le hdm8 h) (Nat.lt_irrefl _)
        · have hq : (((cn : Int) + 1) == 1) = false := by simp; omega
          have HI5 := Lib.hid (instN_again (st := M.st) (c := clk) (j := j) HX5.out k1 (by rw [← HCN.out]; exact c0))
          go_wp2_with fail
          refine ⟨⟨i + 1, dn + 1, Fsi, by omega, rfl, by omega, Lib.hid ?_, HF, HTW6, HMD6, HND⟩, by show n - ((i : Int) + 1).toNat < n - (i : Int).toNat; omega⟩
          rw [HI5.out]
          exact HM6.out.mono (by omega)
    · obtain rfl : i = n := by omega
      obtain ⟨M4, hM4⟩ : ∃ X : Mach, X = { M3 with st := instN M.st clk j r i } := ⟨_, rfl⟩
      rw [← hM4] at HM
      have HP4 := Lib.hid (HM.out.place (show M4.all[j]? = some _ by rw [hM4]; exact HA3.out)).2
      rw [← HQB.out] at HP4
      have HGD := Lib.hid (show M4.all.getD j Run.zero = { r with fin := clk, ret := clk, status := 1 } by rw [hM4]; exact HG3.out)
      have HEL := Lib.hid (show M4.ends.length ≤ 4096 by rw [hM4, show ({ M3 with st := instN M.st clk j r i } : Mach).ends = M3.ends from rfl, HM3.out, HM2.out]; exact HEL.out)
      have HM4 := Lib.hid hM4
      have HOV2' := Lib.hid HOV2.out
      clear hM4 HPA
      have hrow := HM.out.row
      unfold rowM at hrow
      have hlog := HM.out.log
      obtain ⟨LA, lc, hlv⟩ := own_forms hlog
      obtain ⟨ln, hln⟩ : ∃ n, n = (logOf M4 pl).length := ⟨_, rfl⟩
      rw [← hln] at hlv
      have hlnb : ln ≤ 4096 := by rw [hln]; unfold logOf; rw [List.length_map]; exact HEL.out
      have LROW := Lib.hid hrow
      have LOG := Lib.hid hlog
      have ARW := Lib.hid HP4.out.row
      rw [hlv] at LROW LOG
      have HLN := Lib.hid hln
      have HLV := Lib.hid hlv
      have TX := Lib.hid (show logC ({ r with fin := clk, ret := clk, status := 1 }, (plAt pl j).ov) = [.int .i64 x0, .int .i64 x1, .int .i64 x2, .int .i64 clk, .int .i64 x4, .int .i64 clk, .int .i64 1, ov] by unfold logC txnC; rw [← HQB.out]; simp only [HX0.out, HX1.out, HX2.out, HX4.out, HOV.out])
      have ALT := Lib.hid (RowAt.drew LROW.out)
      have ALC := Lib.hid (ALT.out.alloc (.cells #[.int .i64 x0, .int .i64 x1, .int .i64 x2, .int .i64 clk, .int .i64 x4, .int .i64 clk, .int .i64 1, ov] 55))
      have AOA := Lib.hid ((Own.drawn LOG.out).alloc (.cells #[.int .i64 x0, .int .i64 x1, .int .i64 x2, .int .i64 clk, .int .i64 x4, .int .i64 clk, .int .i64 1, ov] 55))
      have ARB := Lib.hid (show RowAt (wr.drew.alloc (.cells #[.int .i64 x0, .int .i64 x1, .int .i64 x2, .int .i64 clk, .int .i64 x4, .int .i64 clk, .int .i64 1, ov] 55)) wr.heap.size 55 (logC ({ r with fin := clk, ret := clk, status := 1 }, (plAt pl j).ov)) by rw [TX.out]; exact RowAt.new wr.drew 55 _)
      have ANB := Lib.hid (show (Value.slice LA ln lc).ownBlock ≠ some m from own_far AOA.out ALC.out (by decide))
      have ANQ := Lib.hid (show (Value.slice LA ln lc).ownBlock ≠ some qb from own_far LOG.out ARW.out (by decide))
      have ARC := Lib.hid ((RowAt.drew ARW.out).alloc (.cells #[.int .i64 x0, .int .i64 x1, .int .i64 x2, .int .i64 clk, .int .i64 x4, .int .i64 clk, .int .i64 1, ov] 55))
      have ASL := Lib.hid (show ln + 1 ≤ maxLen ∧ (ln + 1) * 80 ≤ 140737488355328 by unfold maxLen; omega)
      have hal : ∀ x, (wr.alloc x).cell? ⟨m, 5, none⟩ = some (.slice LA ln lc) := fun x => (LROW.out.alloc x).cell 5
      have e5 := LROW.out.cell 5
      have d0 := ARW.out.cell 0
      have d1 := ARW.out.cell 1
      have d2 := ARW.out.cell 2
      have d3 := ARW.out.cell 3
      have d4 := ARW.out.cell 4
      have d5 := ARW.out.cell 5
      have d6 := ARW.out.cell 6
      have d7 := ARW.out.cell 7
      simp only [actC, HX0.out, HX1.out, HX2.out, HX4.out, List.getElem?_cons_zero, List.getElem?_cons_succ] at e5 d0 d1 d2 d3 d4 d5 d6 d7
      clear hrow hlog hln hlv
      go_wp2_with fail
      go_region_law
        ((refine push_step logC 55 44 55 (.agg #[.int .i64 0, .int .i64 0, .int .i64 0, .int .i64 0, .int .i64 0, .int .i64 0, .int .i64 0, .slice none 0 0]) 8 80 Try.underlying44 (by kernel_rfl) rfl (by decide) logC_len logC_one _ _ (by rfl) (by rfl) 0 (.slice LA ln lc) (logOf M4 pl) ({ r with fin := clk, ret := clk, status := 1 }, (plAt pl j).ov) (by rfl) AOA.out wr.heap.size 1 (by rfl) ARB.out (by rw [← HLN.out]; exact ASL.out.1) (by rw [← HLN.out]; exact ASL.out.2) (Nat.zero_le _) (wr.heap.size + 1) (by simp) ?_; intro g5 cap5 w3 o3 g3 l3 l4; have O3 := Lib.hid o3; have MD := Lib.hid (grown_far g3 ANB.out ALC.out); have RD := Lib.hid (grown_far g3 ANQ.out ARC.out); have T3 := Lib.hid ((Turn.refl (fun i => (Value.slice LA ln lc).ownBlock = some i) _).grown g3 fun i hi => .inl hi); have L3 := Lib.hid l3; have L4 := Lib.hid l4; have qf := MD.out.frozen 5; have qc := MD.out.cell 5; simp only [List.getElem?_cons_zero, List.getElem?_cons_succ] at qc; clear o3 g3 l3 l4))
      all_goals
        have lrow : RowAt (w3.setCell ⟨m, 5, none⟩ (.slice (some ⟨g5, 0, none⟩) ((logOf M4 pl).length + 1) cap5)) m 73 (rowM M4 gs p (.slice (some ⟨g5, 0, none⟩) ((logOf M4 pl).length + 1) cap5)) := (MD.out.set 5 _).congr rfl
        have lown : Own (w3.setCell ⟨m, 5, none⟩ (.slice (some ⟨g5, 0, none⟩) ((logOf M4 pl).length + 1) cap5)) 0 55 8 logC (.slice (some ⟨g5, 0, none⟩) ((logOf M4 pl).length + 1) cap5) (logOf M4 pl ++ [({ r with fin := clk, ret := clk, status := 1 }, (plAt pl j).ov)]) :=
          Own.turn (S := fun k => k = m) O3.out (Turn.setCell (S := fun k => k = m) (p := ⟨m, 5, none⟩) (Turn.refl _ _) (.inl rfl) _) fun g hg e => own_far O3.out MD.out (by decide) (by rw [← e]; exact hg)
        have ltn : Turn (fun k => k = m ∨ lv.ownBlock = some k) wr (w3.setCell ⟨m, 5, none⟩ (.slice (some ⟨g5, 0, none⟩) ((logOf M4 pl).length + 1) cap5)) := by
          rw [HLV.out]
          exact ((((Turn.refl (fun k => k = m ∨ (Value.slice LA ln lc).ownBlock = some k) wr).drew).alloc _).trans (T3.out.mono fun _ _ e => .inr e)).setCell (p := ⟨m, 5, none⟩) (.inl (.inl rfl)) _
        have lloc : ∀ g, (Value.slice (some ⟨g5, 0, none⟩) ((logOf M4 pl).length + 1) cap5).ownBlock = some g → lv.ownBlock = some g ∨ wr.heap.size ≤ g := fun g hg => by
          have e : g5 = g := by simpa [Value.ownBlock] using hg
          subst e
          rw [HLV.out]
          exact L3.out.imp id fun e => by omega
        have HFIN := Lib.hid (HM.out.setLog j ltn lrow (by rw [show M4.all.getD j Run.zero = { r with fin := clk, ret := clk, status := 1 } from HGD.out]; exact lown) lloc)
        have LTN := Lib.hid ltn
        have LLOC := Lib.hid lloc
        have r6 := (RD.out.far (p := ⟨m, 5, none⟩) (fun e => MD.out.ne RD.out (by decide) e.symm) (.slice (some ⟨g5, 0, none⟩) ((logOf M4 pl).length + 1) cap5)).cell 6
        simp only [actC, List.getElem?_cons_zero, List.getElem?_cons_succ] at r6
        clear lrow lown ltn lloc qf qc hal d0 d1 d2 d3 d4 d5 d6 d7 e5
        go_wp2_with fail
        go_ret
        have hfe : { M4 with ends := M4.ends ++ [j] } = finF M s j true := by rw [HM4.out, HM3.out, HM2.out]; unfold finF; rw [HSQ.out, HGD0.out, ← HCL.out, ← HN.out]; simp
        have hz1 := HTW.out.size
        refine ⟨rfl, _, Fsi, hfe ▸ HFIN.out.mono (by omega), MF.setLog (fun g hg => (LLOC.out g hg).imp id fun h => by omega) (fun x hx => HF.out x hx), ?_⟩
        exact HTW.out.trans (LTN.out.mono fun k _ e => e.elim (fun e => .inl e) fun e => .inr (.inr (.inl e)))

end Go.Proofs.Ytfodagidmdbmlaa
