/- read. -/
import Derived.Test.YtfodagidmdbmlaaM7
namespace Go.Proofs.Ytfodagidmdbmlaa
set_option linter.unusedVariables false
set_option linter.unusedSimpArgs false
open Go.RowKit

/-- The version that a transaction with this flaw sees in the chains. -/
def chainF (M : Mach) (r : Run) (k : ByteArray) : Ver :=
  if M.flaw = 2 then (atV (M.st.2 k) M.clock).getD Ver.zero else if M.flaw = 3 then aheadN (M.st.2 k) r.start ((M.st.2 k).length - 1) else (atV (M.st.2 k) r.start).getD Ver.zero
/-- What transaction j sees of a key. -/
def readF (M : Mach) (j : Nat) (r : Run) (k : ByteArray) : ByteArray × Bool :=
  if (lastV r k).2.2 = true then ((lastV r k).1.value, (lastV r k).1.found) else
  if M.flaw = 4 ∧ 0 ≤ (dirtyN M j k M.sess.length).2 then ((dirtyN M j k M.sess.length).1.value, (dirtyN M j k M.sess.length).1.found) else ((chainF M r k).value, (chainF M r k).found)
theorem set4_turn (w : World) (g : Nat) (a b c d : Value) : Turn (fun i => i = g) w ((((w.setCell ⟨g, 0, none⟩ a).setCell ⟨g, 1, none⟩ b).setCell ⟨g, 2, none⟩ c).setCell ⟨g, 3, none⟩ d) := by
  have h := fun (x : World) (j : Nat) (v : Value) (hx : Turn (fun i => i = g) w x) => Turn.setCell (S := fun i => i = g) (p := ⟨g, j, none⟩) hx (.inl rfl) v
  exact h _ 3 d (h _ 2 c (h _ 1 b (h _ 0 a (Turn.refl _ _))))
set_option maxRecDepth 100000 in
set_option maxHeartbeats 8000000 in
theorem read_any (m : Nat) (M : Mach) (gs p : Nat) (lv : Value) (pl : List Pl) (Fs : Nat → Prop) (N j : Nat) (r : Run) (k : ByteArray) (w : World) (h : MachAt w m M gs p lv pl Fs N) (hi : MInv M) (hr : M.all[j]? = some r) (hk : k.size ≤ maxLen) (hN : N < 3000000000000) :
    Calls Try.prog 33 #[.pointer (some ⟨m, 0, none⟩), .pointer (some ⟨(plAt pl j).b, 0, none⟩), .string k] w fun e w' => e = .returned (.tuple #[.string (readF M j r k).1, .bool (readF M j r k).2]) ∧ Below w.heap.size w w' := by
  obtain ⟨res, hres⟩ : ∃ z, z = readF M j r k := ⟨_, rfl⟩
  rw [← hres]
  have H := Lib.hid h
  have HI := Lib.hid hi
  have HR := Lib.hid hr
  have HK := Lib.hid hk
  have HRES := Lib.hid hres
  obtain ⟨pq, pa⟩ := h.place hr
  obtain ⟨qb, hqb⟩ : ∃ z, z = plAt pl j := ⟨_, rfl⟩
  rw [← hqb] at pa pq ⊢
  have HQB := Lib.hid hqb
  have HA := Lib.hid pa
  have HOP := Lib.hid (HI.out.ops j r hr)
  obtain ⟨⟨ok, ot, ob⟩, hlv⟩ : ∃ z, z = lastV r k := ⟨_, rfl⟩
  obtain ⟨okd, oky, ofd, ova⟩ := ok
  have HLV := Lib.hid (show lastR (lastV r k) = .tuple #[.agg #[.int .i64 okd, .string oky, .bool ofd, .string ova], .int .i64 ot, .bool ob] by rw [← hlv]; rfl)
  have HL2 := Lib.hid hlv
  clear h hi hr hk hres pq pa hqb hlv
  go_enter Try.func33, Try.ntmps33
  go_wp2_with fail
  refine (last_any r qb j k _ HA.out HOP.out.1 HOP.out.2).mono ?_
  rintro e w1 ⟨he, b1⟩
  rw [HLV.out] at he
  subst he
  have B1 := Lib.hid b1
  have rb := RowAt.new w1 67 [.int .i64 okd, .string oky, .bool ofd, .string ova]
  have hb2 := (Below.refl w1.heap.size w1).alloc (Nat.le_refl _) (.cells #[.int .i64 okd, .string oky, .bool ofd, .string ova] 67)
  have B2 := Lib.hid (b1.trans (hb2.mono b1.size))
  have z2 := rb.cell 2
  have z3 := rb.cell 3
  simp only [List.getElem?_cons_zero, List.getElem?_cons_succ] at z2 z3
  clear rb b1 hb2
  cases ob with
  | true =>
    have HE := Lib.hid (show res = (ova, ofd) by rw [HRES.out]; unfold readF; rw [← HL2.out]; rfl)
    go_wp2_with fail
    go_region
    go_wp2_with fail
    refine bodyPost_ret (results_tmp2 rfl _ _ _) rfl ⟨by rw [HE.out]; rfl, B2.out.drew⟩
  | false =>
    have HE := Lib.hid (show res = if M.flaw = 4 ∧ 0 ≤ (dirtyN M j k M.sess.length).2 then ((dirtyN M j k M.sess.length).1.value, (dirtyN M j k M.sess.length).1.found) else ((chainF M r k).value, (chainF M r k).found) by
      rw [HRES.out]; unfold readF; rw [← HL2.out]; rfl)
    go_wp2_with fail
    obtain ⟨W2, hW2⟩ : ∃ WW : World, WW = w1.alloc (.cells #[.int .i64 okd, .string oky, .bool ofd, .string ova] 67) := ⟨_, rfl⟩
    rw [← hW2] at B2 ⊢
    clear hW2 z2 z3
    have H2 := Lib.hid (H.out.below B2.out)
    have A2 := Lib.hid (HA.out.below B2.out)
    obtain ⟨clk, hclk⟩ : ∃ n, n = M.clock := ⟨_, rfl⟩
    obtain ⟨flw, hflw⟩ : ∃ n, n = M.flaw := ⟨_, rfl⟩
    obtain ⟨stt, hstt⟩ : ∃ n, n = r.start := ⟨_, rfl⟩
    have HCL := Lib.hid hclk
    have HFW := Lib.hid hflw
    have HST := Lib.hid hstt
    obtain ⟨⟨a0, a1, a2, a3⟩, hav⟩ : ∃ z, z = (atV (M.st.2 k) stt).getD Ver.zero := ⟨_, rfl⟩
    obtain ⟨ab, hab⟩ : ∃ z, z = (atV (M.st.2 k) stt).isSome := ⟨_, rfl⟩
    have EV := Lib.hid (show seen (atV (M.st.2 k) stt) = .tuple #[.agg #[.int .i64 a0, .int .i64 a1, .bool a2, .string a3], .bool ab] by unfold seen; rw [← hav, ← hab]; rfl)
    have HAV := Lib.hid hav
    have ro := H2.out.row
    unfold rowM at ro
    rw [← hflw, ← hclk] at ro
    have RO := Lib.hid ro
    have ra := A2.out.row
    unfold actC at ra
    rw [← hstt] at ra
    have RA := Lib.hid ra
    clear hclk hflw hstt hav hab ro ra
    have HD := Lib.hid (Below.refl W2.heap.size W2).drew
    have p4 := RO.out.cell 4
    have p2 := RA.out.cell 2
    simp only [List.getElem?_cons_zero, List.getElem?_cons_succ] at p2 p4
    have HDA := Lib.hid (HD.out.alloc HD.out.size (.cells #[.int .i64 0, .int .i64 0, .bool false, .string ⟨#[]⟩] 93))
    have RZ := Lib.hid (show RowAt (W2.drew.alloc (.cells #[.int .i64 0, .int .i64 0, .bool false, .string ⟨#[]⟩] 93)) W2.heap.size 93 [.int .i64 0, .int .i64 0, .bool false, .string ⟨#[]⟩] from RowAt.new W2.drew 93 [.int .i64 0, .int .i64 0, .bool false, .string ⟨#[]⟩])
    have q0 : (W2.drew.cell? ⟨m, 4, none⟩ = some (.pointer (some ⟨p, 0, none⟩)) ∧ W2.drew.cell? ⟨qb.b, 2, none⟩ = some (.int .i64 stt)) := ⟨p4, p2⟩
    have qa : ∀ o, ((W2.drew.alloc o).cell? ⟨m, 4, none⟩ = some (.pointer (some ⟨p, 0, none⟩)) ∧ (W2.drew.alloc o).cell? ⟨qb.b, 2, none⟩ = some (.int .i64 stt)) := fun o => ⟨(RO.out.drew.alloc o).cell 4, (RA.out.drew.alloc o).cell 2⟩
    have qb' : ∀ o, ((W2.alloc o).cell? ⟨m, 4, none⟩ = some (.pointer (some ⟨p, 0, none⟩)) ∧ (W2.alloc o).cell? ⟨qb.b, 2, none⟩ = some (.int .i64 stt)) := fun o => ⟨(RO.out.alloc o).cell 4, (RA.out.alloc o).cell 2⟩
    have qc : ∀ o, ((W2.alloc o).drew.cell? ⟨m, 4, none⟩ = some (.pointer (some ⟨p, 0, none⟩)) ∧ (W2.alloc o).drew.cell? ⟨qb.b, 2, none⟩ = some (.int .i64 stt)) := fun o => ⟨(RO.out.alloc o).cell 4, (RA.out.alloc o).cell 2⟩
    go_region_held3 (fun w' => (w'.cell? ⟨m, 4, none⟩ = some (.pointer (some ⟨p, 0, none⟩)) ∧ w'.cell? ⟨qb.b, 2, none⟩ = some (.int .i64 stt)))
      (first | with_reducible exact q3 _ _ _ _ | with_reducible exact q2 _ | with_reducible exact q1 | with_reducible exact qa _ | with_reducible exact qb' _ | with_reducible exact qc _ | with_reducible exact q0 | with_reducible exact ⟨p4, p2⟩)
      (first
        | (go_at_call 38; refine (at_any Fs p M.st.1 N M.st.2 k stt _ (H2.out.sto.below HD.out) HK.out hN (HI.out.rise k)).mono ?_; rintro e w3 ⟨he, b3⟩; rw [EV.out] at he; subst he; have B3 := Lib.hid (HD.out.trans (b3.mono HD.out.size)); have ro3 := RO.out.below B3.out; have ra3 := RA.out.below B3.out; have q1 : (w3.cell? ⟨m, 4, none⟩ = some (.pointer (some ⟨p, 0, none⟩)) ∧ w3.cell? ⟨qb.b, 2, none⟩ = some (.int .i64 stt)) := ⟨ro3.cell 4, ra3.cell 2⟩; have q2 : ∀ o, ((w3.alloc o).cell? ⟨m, 4, none⟩ = some (.pointer (some ⟨p, 0, none⟩)) ∧ (w3.alloc o).cell? ⟨qb.b, 2, none⟩ = some (.int .i64 stt)) := fun o => ⟨(ro3.alloc o).cell 4, (ra3.alloc o).cell 2⟩; clear b3)
        | (go_at_call 38; refine (at_any Fs p M.st.1 N M.st.2 k stt _ (H2.out.sto.below HDA.out) HK.out hN (HI.out.rise k)).mono ?_; rintro e w3 ⟨he, b3⟩; rw [EV.out] at he; subst he; have B3 := Lib.hid (HDA.out.trans (b3.mono HDA.out.size)); have ro3 := RO.out.below B3.out; have ra3 := RA.out.below B3.out; have q1 : (w3.cell? ⟨m, 4, none⟩ = some (.pointer (some ⟨p, 0, none⟩)) ∧ w3.cell? ⟨qb.b, 2, none⟩ = some (.int .i64 stt)) := ⟨ro3.cell 4, ra3.cell 2⟩; have rz3 := Lib.hid (RZ.out.below b3); have zc := rz3.out.cell; have zf := rz3.out.frozen; have hne : W2.heap.size ≠ m := fun e => rz3.out.ne ro3 (by decide) e; have hne2 : W2.heap.size ≠ qb.b := fun e => rz3.out.ne ra3 (by decide) e;
           have q3 : ∀ (a b c d : Value), ((((((w3.setCell ⟨W2.heap.size, 0, none⟩ a).setCell ⟨W2.heap.size, 1, none⟩ b).setCell ⟨W2.heap.size, 2, none⟩ c).setCell ⟨W2.heap.size, 3, none⟩ d)).cell? ⟨m, 4, none⟩ = some (.pointer (some ⟨p, 0, none⟩)) ∧ (((((w3.setCell ⟨W2.heap.size, 0, none⟩ a).setCell ⟨W2.heap.size, 1, none⟩ b).setCell ⟨W2.heap.size, 2, none⟩ c).setCell ⟨W2.heap.size, 3, none⟩ d)).cell? ⟨qb.b, 2, none⟩ = some (.int .i64 stt)) := fun a b c d => ⟨((((ro3.far hne.symm a).far hne.symm b).far hne.symm c).far hne.symm d).cell 4, ((((ra3.far hne2.symm a).far hne2.symm b).far hne2.symm c).far hne2.symm d).cell 2⟩; clear b3))
    · have hbx : Below W2.heap.size W2 (w3.alloc (.cells #[.int .i64 a0, .int .i64 a1, .bool a2, .string a3] 93)) := B3.out.alloc B3.out.size _
      have rbx := RowAt.new w3 93 [.int .i64 a0, .int .i64 a1, .bool a2, .string a3]
      obtain ⟨W3, hW3⟩ : ∃ WW : World, WW = w3.alloc (.cells #[.int .i64 a0, .int .i64 a1, .bool a2, .string a3] 93) := ⟨_, rfl⟩
      rw [show (Obj.cells (List.toArray [.int .i64 a0, .int .i64 a1, .bool a2, .string a3]) 93) = .cells #[.int .i64 a0, .int .i64 a1, .bool a2, .string a3] 93 from rfl] at rbx
      rw [← hW3] at hbx rbx ⊢
      obtain ⟨g, hg⟩ : ∃ g, g = w3.heap.size := ⟨_, rfl⟩
      rw [← hg] at rbx ⊢
      have hgl : w.heap.size ≤ g := by
        rw [hg]
        exact Nat.le_trans B2.out.size B3.out.size
      clear q1 q2
      have B4 := Lib.hid (B2.out.trans (hbx.mono B2.out.size))
      have R4 := Lib.hid rbx
      have RO4 := Lib.hid (RO.out.below hbx)
      have RA4 := Lib.hid (RA.out.below hbx)
      have H4 := Lib.hid (H.out.below B4.out)
      have HGL := Lib.hid hgl
      clear hW3 hg hbx rbx q0 qa qb' qc p2 p4 ro3 ra3 B3 HD HDA RZ
      have f0 := RO4.out.cell 0
      have z2 := R4.out.cell 2
      have z3 := R4.out.cell 3
      simp only [List.getElem?_cons_zero, List.getElem?_cons_succ] at f0 z2 z3
      by_cases e2 : flw = 2
      · subst e2
        obtain ⟨⟨c0, c1, c2, c3⟩, hcv⟩ : ∃ z, z = (atV (M.st.2 k) clk).getD Ver.zero := ⟨_, rfl⟩
        obtain ⟨cb, hcb⟩ : ∃ z, z = (atV (M.st.2 k) clk).isSome := ⟨_, rfl⟩
        have EC := Lib.hid (show seen (atV (M.st.2 k) clk) = .tuple #[.agg #[.int .i64 c0, .int .i64 c1, .bool c2, .string c3], .bool cb] by unfold seen; rw [← hcv, ← hcb]; rfl)
        have HR2 := Lib.hid (show res = (c3, c2) by
          rw [HE.out, if_neg (by rw [← HFW.out]; rintro ⟨h, -⟩; cases h)]
          unfold chainF
          rw [if_pos HFW.out.symm, ← HCL.out, ← hcv])
        clear hcv hcb
        have D4 := Lib.hid (Below.refl W3.heap.size W3).drew
        have p4 := RO4.out.cell 4
        have p1 := RO4.out.cell 1
        simp only [List.getElem?_cons_zero, List.getElem?_cons_succ] at p1 p4
        have q0 : (W3.drew.cell? ⟨m, 4, none⟩ = some (.pointer (some ⟨p, 0, none⟩)) ∧ W3.drew.cell? ⟨m, 1, none⟩ = some (.int .i64 clk)) := ⟨p4, p1⟩
        go_wp2_with fail
        go_region_held3 (fun w' => (w'.cell? ⟨m, 4, none⟩ = some (.pointer (some ⟨p, 0, none⟩)) ∧ w'.cell? ⟨m, 1, none⟩ = some (.int .i64 clk)))
          (first | with_reducible exact q3 _ _ _ _ | with_reducible exact q1 | with_reducible exact q0 | with_reducible exact ⟨p4, p1⟩)
          (first
            | (go_at_call 38; refine (at_any Fs p M.st.1 N M.st.2 k clk _ (H4.out.sto.below D4.out) HK.out hN (HI.out.rise k)).mono ?_; rintro e w5 ⟨he, b5⟩; rw [EC.out] at he; subst he; have B5 := Lib.hid (D4.out.trans (b5.mono D4.out.size)); have ro5 := RO4.out.below B5.out; have q1 : (w5.cell? ⟨m, 4, none⟩ = some (.pointer (some ⟨p, 0, none⟩)) ∧ w5.cell? ⟨m, 1, none⟩ = some (.int .i64 clk)) := ⟨ro5.cell 4, ro5.cell 1⟩; have rz5 := Lib.hid (R4.out.below B5.out); have zc := rz5.out.cell; have zf := rz5.out.frozen; have hne : g ≠ m := fun e => rz5.out.ne ro5 (by decide) e;
               have q3 : ∀ (a b c d : Value), (((((w5.setCell ⟨g, 0, none⟩ a).setCell ⟨g, 1, none⟩ b).setCell ⟨g, 2, none⟩ c).setCell ⟨g, 3, none⟩ d).cell? ⟨m, 4, none⟩ = some (.pointer (some ⟨p, 0, none⟩)) ∧ ((((w5.setCell ⟨g, 0, none⟩ a).setCell ⟨g, 1, none⟩ b).setCell ⟨g, 2, none⟩ c).setCell ⟨g, 3, none⟩ d).cell? ⟨m, 1, none⟩ = some (.int .i64 clk)) := fun a b c d => ⟨((((ro5.far hne.symm a).far hne.symm b).far hne.symm c).far hne.symm d).cell 4, ((((ro5.far hne.symm a).far hne.symm b).far hne.symm c).far hne.symm d).cell 1⟩; clear b5 z2 z3))
        have rz := set4_row rz5.out (.int .i64 c0) (.int .i64 c1) (.bool c2) (.string c3)
        have z2 := rz.cell 2
        have z3 := rz.cell 3
        simp only [List.getElem?_cons_zero, List.getElem?_cons_succ] at z2 z3
        clear q0 q1 q3 zc zf rz p1 p4
        go_wp2_with fail
        go_region
        go_wp2_with fail
        have hb6 := B4.out.trans (B5.out.mono B4.out.size)
        refine bodyPost_ret (results_tmp2 rfl _ _ _) rfl ⟨by rw [HR2.out]; rfl, ?_⟩
        exact ((((hb6.setCell (p := ⟨g, 0, none⟩) hgl _).setCell (p := ⟨g, 1, none⟩) hgl _).setCell (p := ⟨g, 2, none⟩) hgl _).setCell (p := ⟨g, 3, none⟩) hgl _).drew
      by_cases e3 : flw = 3
      · subst e3
        obtain ⟨⟨c0, c1, c2, c3⟩, hcv⟩ : ∃ z, z = aheadN (M.st.2 k) stt ((M.st.2 k).length - 1) := ⟨_, rfl⟩
        have EC := Lib.hid (show verV (aheadN (M.st.2 k) stt ((M.st.2 k).length - 1)) = .agg #[.int .i64 c0, .int .i64 c1, .bool c2, .string c3] by rw [← hcv]; rfl)
        have HR2 := Lib.hid (show res = (c3, c2) by
          rw [HE.out, if_neg (by rw [← HFW.out]; rintro ⟨h, -⟩; cases h)]
          unfold chainF
          rw [if_neg (by rw [← HFW.out]; decide), if_pos HFW.out.symm, ← HST.out, ← hcv])
        clear hcv
        have p2 := RA4.out.cell 2
        simp only [List.getElem?_cons_zero, List.getElem?_cons_succ] at p2
        go_wp2_with fail
        refine (ahead_any m M gs p lv pl Fs N k stt _ H4.out HK.out hN).mono ?_
        rintro e w5 ⟨he, b5⟩
        rw [EC.out] at he
        subst he
        have rz5 := Lib.hid (R4.out.below b5)
        have zc := rz5.out.cell
        have zf := rz5.out.frozen
        have rz := set4_row rz5.out (.int .i64 c0) (.int .i64 c1) (.bool c2) (.string c3)
        have B5 := Lib.hid (B4.out.trans (b5.mono B4.out.size))
        have y2 := rz.cell 2
        have y3 := rz.cell 3
        simp only [List.getElem?_cons_zero, List.getElem?_cons_succ] at y2 y3
        clear b5 rz z2 z3
        go_wp2_with fail
        go_region
        go_wp2_with fail
        refine bodyPost_ret (results_tmp2 rfl _ _ _) rfl ⟨by rw [HR2.out]; rfl, ?_⟩
        exact ((((B5.out.setCell (p := ⟨g, 0, none⟩) hgl _).setCell (p := ⟨g, 1, none⟩) hgl _).setCell (p := ⟨g, 2, none⟩) hgl _).setCell (p := ⟨g, 3, none⟩) hgl _).drew
      have HCH := Lib.hid (show chainF M r k = ⟨a0, a1, a2, a3⟩ by
        unfold chainF
        rw [← HFW.out, if_neg e2, if_neg e3, ← HST.out, ← HAV.out])
      by_cases e4 : flw = 4
      · subst e4
        obtain ⟨⟨dok, dwh⟩, hd⟩ : ∃ z, z = dirtyN M j k M.sess.length := ⟨_, rfl⟩
        obtain ⟨dkd, dky, dfd, dva⟩ := dok
        have HDN := Lib.hid (show dirtyR (dirtyN M j k M.sess.length) = .tuple #[.agg #[.int .i64 dkd, .string dky, .bool dfd, .string dva], .bool (decide (dwh ≥ 0))] by rw [← hd]; rfl)
        rw [← hd, ← HFW.out, HCH.out] at HE
        clear hd
        go_wp2_with fail
        rw [HQB.out]
        refine (dirty_any m M gs p lv pl Fs N j k _ H4.out HI.out (List.getElem?_eq_some_iff.1 HR.out).1).mono ?_
        rintro e w5 ⟨he, b5⟩
        rw [HDN.out] at he
        subst he
        have rz5 := Lib.hid (R4.out.below b5)
        have rb5 := RowAt.new w5 67 [.int .i64 dkd, .string dky, .bool dfd, .string dva]
        have hb5 := (Below.refl w5.heap.size w5).alloc (Nat.le_refl _) (.cells #[.int .i64 dkd, .string dky, .bool dfd, .string dva] 67)
        have rz6 := rz5.out.below hb5
        have x2 := rb5.cell 2
        have x3 := rb5.cell 3
        have y2 := rz6.cell 2
        have y3 := rz6.cell 3
        simp only [List.getElem?_cons_zero, List.getElem?_cons_succ] at x2 x3 y2 y3
        have B5 := Lib.hid (B4.out.trans ((b5.trans (hb5.mono b5.size)).mono B4.out.size))
        clear b5 rb5 hb5 rz6 z2 z3
        by_cases hdw : 0 ≤ dwh
        · have hdd : decide (dwh ≥ 0) = true := decide_eq_true hdw
          have HR2 := Lib.hid (show res = (dva, dfd) from HE.out.trans (if_pos ⟨by simp, hdw⟩))
          rw [hdd]
          go_wp2_with fail
          go_region
          go_wp2_with fail
          refine bodyPost_ret (results_tmp2 rfl _ _ _) rfl ⟨by rw [HR2.out]; rfl, ?_⟩
          exact B5.out.drew
        · have hdd : decide (dwh ≥ 0) = false := decide_eq_false hdw
          have HR2 := Lib.hid (show res = (a3, a2) from HE.out.trans (if_neg (fun h => hdw h.2)))
          rw [hdd]
          go_wp2_with fail
          go_region
          go_wp2_with fail
          refine bodyPost_ret (results_tmp2 rfl _ _ _) rfl ⟨by rw [HR2.out]; rfl, ?_⟩
          exact B5.out.drew
      · have HR2 := Lib.hid (show res = (a3, a2) by
          rw [HE.out, if_neg (by rw [← HFW.out]; rintro ⟨h, -⟩; exact e4 h), HCH.out])
        have t2 : (flw == 2) = false := by simpa using e2
        have t3 : (flw == 3) = false := by simpa using e3
        have t4 : (flw == 4) = false := by simpa using e4
        go_wp2_with fail
        go_region
        go_wp2_with fail
        refine bodyPost_ret (results_tmp2 rfl _ _ _) rfl ⟨by rw [HR2.out]; rfl, ?_⟩
        exact B4.out.drew
    · have hbx : Below W2.heap.size W2 ((((w3.setCell ⟨W2.heap.size, 0, none⟩ (.int .i64 a0)).setCell ⟨W2.heap.size, 1, none⟩ (.int .i64 a1)).setCell ⟨W2.heap.size, 2, none⟩ (.bool a2)).setCell ⟨W2.heap.size, 3, none⟩ (.string a3)) := (((B3.out.setCell (p := ⟨W2.heap.size, 0, none⟩) (Nat.le_refl _) _).setCell (p := ⟨W2.heap.size, 1, none⟩) (Nat.le_refl _) _).setCell (p := ⟨W2.heap.size, 2, none⟩) (Nat.le_refl _) _).setCell (p := ⟨W2.heap.size, 3, none⟩) (Nat.le_refl _) _
      have rbx := set4_row rz3.out (.int .i64 a0) (.int .i64 a1) (.bool a2) (.string a3)
      obtain ⟨W3, hW3⟩ : ∃ WW : World, WW = ((((w3.setCell ⟨W2.heap.size, 0, none⟩ (.int .i64 a0)).setCell ⟨W2.heap.size, 1, none⟩ (.int .i64 a1)).setCell ⟨W2.heap.size, 2, none⟩ (.bool a2)).setCell ⟨W2.heap.size, 3, none⟩ (.string a3)) := ⟨_, rfl⟩
      rw [← hW3] at hbx rbx ⊢
      obtain ⟨g, hg⟩ : ∃ g, g = W2.heap.size := ⟨_, rfl⟩
      rw [← hg] at rbx ⊢
      have hgl : w.heap.size ≤ g := by
        rw [hg]
        exact B2.out.size
      clear q1 q3 zc zf rz3 hne hne2
      have B4 := Lib.hid (B2.out.trans (hbx.mono B2.out.size))
      have R4 := Lib.hid rbx
      have RO4 := Lib.hid (RO.out.below hbx)
      have RA4 := Lib.hid (RA.out.below hbx)
      have H4 := Lib.hid (H.out.below B4.out)
      have HGL := Lib.hid hgl
      clear hW3 hg hbx rbx q0 qa qb' qc p2 p4 ro3 ra3 B3 HD HDA RZ
      have f0 := RO4.out.cell 0
      have z2 := R4.out.cell 2
      have z3 := R4.out.cell 3
      simp only [List.getElem?_cons_zero, List.getElem?_cons_succ] at f0 z2 z3
      by_cases e2 : flw = 2
      · subst e2
        obtain ⟨⟨c0, c1, c2, c3⟩, hcv⟩ : ∃ z, z = (atV (M.st.2 k) clk).getD Ver.zero := ⟨_, rfl⟩
        obtain ⟨cb, hcb⟩ : ∃ z, z = (atV (M.st.2 k) clk).isSome := ⟨_, rfl⟩
        have EC := Lib.hid (show seen (atV (M.st.2 k) clk) = .tuple #[.agg #[.int .i64 c0, .int .i64 c1, .bool c2, .string c3], .bool cb] by unfold seen; rw [← hcv, ← hcb]; rfl)
        have HR2 := Lib.hid (show res = (c3, c2) by
          rw [HE.out, if_neg (by rw [← HFW.out]; rintro ⟨h, -⟩; cases h)]
          unfold chainF
          rw [if_pos HFW.out.symm, ← HCL.out, ← hcv])
        clear hcv hcb
        have D4 := Lib.hid (Below.refl W3.heap.size W3).drew
        have p4 := RO4.out.cell 4
        have p1 := RO4.out.cell 1
        simp only [List.getElem?_cons_zero, List.getElem?_cons_succ] at p1 p4
        have q0 : (W3.drew.cell? ⟨m, 4, none⟩ = some (.pointer (some ⟨p, 0, none⟩)) ∧ W3.drew.cell? ⟨m, 1, none⟩ = some (.int .i64 clk)) := ⟨p4, p1⟩
        go_wp2_with fail
        go_region_held3 (fun w' => (w'.cell? ⟨m, 4, none⟩ = some (.pointer (some ⟨p, 0, none⟩)) ∧ w'.cell? ⟨m, 1, none⟩ = some (.int .i64 clk)))
          (first | with_reducible exact q3 _ _ _ _ | with_reducible exact q1 | with_reducible exact q0 | with_reducible exact ⟨p4, p1⟩)
          (first
            | (go_at_call 38; refine (at_any Fs p M.st.1 N M.st.2 k clk _ (H4.out.sto.below D4.out) HK.out hN (HI.out.rise k)).mono ?_; rintro e w5 ⟨he, b5⟩; rw [EC.out] at he; subst he; have B5 := Lib.hid (D4.out.trans (b5.mono D4.out.size)); have ro5 := RO4.out.below B5.out; have q1 : (w5.cell? ⟨m, 4, none⟩ = some (.pointer (some ⟨p, 0, none⟩)) ∧ w5.cell? ⟨m, 1, none⟩ = some (.int .i64 clk)) := ⟨ro5.cell 4, ro5.cell 1⟩; have rz5 := Lib.hid (R4.out.below B5.out); have zc := rz5.out.cell; have zf := rz5.out.frozen; have hne : g ≠ m := fun e => rz5.out.ne ro5 (by decide) e;
               have q3 : ∀ (a b c d : Value), (((((w5.setCell ⟨g, 0, none⟩ a).setCell ⟨g, 1, none⟩ b).setCell ⟨g, 2, none⟩ c).setCell ⟨g, 3, none⟩ d).cell? ⟨m, 4, none⟩ = some (.pointer (some ⟨p, 0, none⟩)) ∧ ((((w5.setCell ⟨g, 0, none⟩ a).setCell ⟨g, 1, none⟩ b).setCell ⟨g, 2, none⟩ c).setCell ⟨g, 3, none⟩ d).cell? ⟨m, 1, none⟩ = some (.int .i64 clk)) := fun a b c d => ⟨((((ro5.far hne.symm a).far hne.symm b).far hne.symm c).far hne.symm d).cell 4, ((((ro5.far hne.symm a).far hne.symm b).far hne.symm c).far hne.symm d).cell 1⟩; clear b5 z2 z3))
        have rz := set4_row rz5.out (.int .i64 c0) (.int .i64 c1) (.bool c2) (.string c3)
        have z2 := rz.cell 2
        have z3 := rz.cell 3
        simp only [List.getElem?_cons_zero, List.getElem?_cons_succ] at z2 z3
        clear q0 q1 q3 zc zf rz p1 p4
        go_wp2_with fail
        go_region
        go_wp2_with fail
        have hb6 := B4.out.trans (B5.out.mono B4.out.size)
        refine bodyPost_ret (results_tmp2 rfl _ _ _) rfl ⟨by rw [HR2.out]; rfl, ?_⟩
        exact ((((hb6.setCell (p := ⟨g, 0, none⟩) hgl _).setCell (p := ⟨g, 1, none⟩) hgl _).setCell (p := ⟨g, 2, none⟩) hgl _).setCell (p := ⟨g, 3, none⟩) hgl _).drew
      by_cases e3 : flw = 3
      · subst e3
        obtain ⟨⟨c0, c1, c2, c3⟩, hcv⟩ : ∃ z, z = aheadN (M.st.2 k) stt ((M.st.2 k).length - 1) := ⟨_, rfl⟩
        have EC := Lib.hid (show verV (aheadN (M.st.2 k) stt ((M.st.2 k).length - 1)) = .agg #[.int .i64 c0, .int .i64 c1, .bool c2, .string c3] by rw [← hcv]; rfl)
        have HR2 := Lib.hid (show res = (c3, c2) by
          rw [HE.out, if_neg (by rw [← HFW.out]; rintro ⟨h, -⟩; cases h)]
          unfold chainF
          rw [if_neg (by rw [← HFW.out]; decide), if_pos HFW.out.symm, ← HST.out, ← hcv])
        clear hcv
        have p2 := RA4.out.cell 2
        simp only [List.getElem?_cons_zero, List.getElem?_cons_succ] at p2
        go_wp2_with fail
        refine (ahead_any m M gs p lv pl Fs N k stt _ H4.out HK.out hN).mono ?_
        rintro e w5 ⟨he, b5⟩
        rw [EC.out] at he
        subst he
        have rz5 := Lib.hid (R4.out.below b5)
        have zc := rz5.out.cell
        have zf := rz5.out.frozen
        have rz := set4_row rz5.out (.int .i64 c0) (.int .i64 c1) (.bool c2) (.string c3)
        have B5 := Lib.hid (B4.out.trans (b5.mono B4.out.size))
        have y2 := rz.cell 2
        have y3 := rz.cell 3
        simp only [List.getElem?_cons_zero, List.getElem?_cons_succ] at y2 y3
        clear b5 rz z2 z3
        go_wp2_with fail
        go_region
        go_wp2_with fail
        refine bodyPost_ret (results_tmp2 rfl _ _ _) rfl ⟨by rw [HR2.out]; rfl, ?_⟩
        exact ((((B5.out.setCell (p := ⟨g, 0, none⟩) hgl _).setCell (p := ⟨g, 1, none⟩) hgl _).setCell (p := ⟨g, 2, none⟩) hgl _).setCell (p := ⟨g, 3, none⟩) hgl _).drew
      have HCH := Lib.hid (show chainF M r k = ⟨a0, a1, a2, a3⟩ by
        unfold chainF
        rw [← HFW.out, if_neg e2, if_neg e3, ← HST.out, ← HAV.out])
      by_cases e4 : flw = 4
      · subst e4
        obtain ⟨⟨dok, dwh⟩, hd⟩ : ∃ z, z = dirtyN M j k M.sess.length := ⟨_, rfl⟩
        obtain ⟨dkd, dky, dfd, dva⟩ := dok
        have HDN := Lib.hid (show dirtyR (dirtyN M j k M.sess.length) = .tuple #[.agg #[.int .i64 dkd, .string dky, .bool dfd, .string dva], .bool (decide (dwh ≥ 0))] by rw [← hd]; rfl)
        rw [← hd, ← HFW.out, HCH.out] at HE
        clear hd
        go_wp2_with fail
        rw [HQB.out]
        refine (dirty_any m M gs p lv pl Fs N j k _ H4.out HI.out (List.getElem?_eq_some_iff.1 HR.out).1).mono ?_
        rintro e w5 ⟨he, b5⟩
        rw [HDN.out] at he
        subst he
        have rz5 := Lib.hid (R4.out.below b5)
        have rb5 := RowAt.new w5 67 [.int .i64 dkd, .string dky, .bool dfd, .string dva]
        have hb5 := (Below.refl w5.heap.size w5).alloc (Nat.le_refl _) (.cells #[.int .i64 dkd, .string dky, .bool dfd, .string dva] 67)
        have rz6 := rz5.out.below hb5
        have x2 := rb5.cell 2
        have x3 := rb5.cell 3
        have y2 := rz6.cell 2
        have y3 := rz6.cell 3
        simp only [List.getElem?_cons_zero, List.getElem?_cons_succ] at x2 x3 y2 y3
        have B5 := Lib.hid (B4.out.trans ((b5.trans (hb5.mono b5.size)).mono B4.out.size))
        clear b5 rb5 hb5 rz6 z2 z3
        by_cases hdw : 0 ≤ dwh
        · have hdd : decide (dwh ≥ 0) = true := decide_eq_true hdw
          have HR2 := Lib.hid (show res = (dva, dfd) from HE.out.trans (if_pos ⟨by simp, hdw⟩))
          rw [hdd]
          go_wp2_with fail
          go_region
          go_wp2_with fail
          refine bodyPost_ret (results_tmp2 rfl _ _ _) rfl ⟨by rw [HR2.out]; rfl, ?_⟩
          exact B5.out.drew
        · have hdd : decide (dwh ≥ 0) = false := decide_eq_false hdw
          have HR2 := Lib.hid (show res = (a3, a2) from HE.out.trans (if_neg (fun h => hdw h.2)))
          rw [hdd]
          go_wp2_with fail
          go_region
          go_wp2_with fail
          refine bodyPost_ret (results_tmp2 rfl _ _ _) rfl ⟨by rw [HR2.out]; rfl, ?_⟩
          exact B5.out.drew
      · have HR2 := Lib.hid (show res = (a3, a2) by
          rw [HE.out, if_neg (by rw [← HFW.out]; rintro ⟨h, -⟩; exact e4 h), HCH.out])
        have t2 : (flw == 2) = false := by simpa using e2
        have t3 : (flw == 3) = false := by simpa using e3
        have t4 : (flw == 4) = false := by simpa using e4
        go_wp2_with fail
        go_region
        go_wp2_with fail
        refine bodyPost_ret (results_tmp2 rfl _ _ _) rfl ⟨by rw [HR2.out]; rfl, ?_⟩
        exact B4.out.drew

end Go.Proofs.Ytfodagidmdbmlaa
