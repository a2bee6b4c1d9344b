/- passes. -/
import Derived.Test.YtfodagidmdbmlaaM8
namespace Go.Proofs.Ytfodagidmdbmlaa
set_option linter.unusedVariables false
set_option linter.unusedSimpArgs false
open Go.RowKit

/-- Does an operation stand against the commit? -/
def lateF (M : Mach) (t : Int) (o : MOp) : Bool := (afterV (M.st.2 o.key) t).isSome && (!(o.kind == 1) && !(M.flaw == 1))
def passF (M : Mach) (r : Run) : Bool := !(r.ops.any (lateF M r.start))
theorem any_step {l : List MOp} {f : MOp → Bool} {i : Nat} {x : MOp} (h : l[i]? = some x) : (l.take (i + 1)).any f = ((l.take i).any f || f x) := by
  rw [List.take_add_one, h, Option.toList_some, List.any_append]
  simp
theorem any_yes {l : List MOp} {f : MOp → Bool} {i : Nat} {x : MOp} (h : l[i]? = some x) (hf : f x = true) : l.any f = true := List.any_eq_true.2 ⟨x, List.mem_of_getElem? h, hf⟩
set_option maxRecDepth 100000 in
set_option maxHeartbeats 8000000 in
theorem passes_any (m : Nat) (M : Mach) (gs p : Nat) (lv : Value) (pl : List Pl) (Fs : Nat → Prop) (N j : Nat) (r : Run) (w : World) (h : MachAt w m M gs p lv pl Fs N) (hi : MInv M) (hr : M.all[j]? = some r) (hN : N < 3000000000000) :
    Calls Try.prog 36 #[.pointer (some ⟨m, 0, none⟩), .pointer (some ⟨(plAt pl j).b, 0, none⟩)] w fun e w' => e = .returned (.bool (passF M r)) ∧ Below w.heap.size w w' := by
  have H := Lib.hid h
  have HI := Lib.hid hi
  have HR := Lib.hid hr
  obtain ⟨pq, pa⟩ := h.place hr
  obtain ⟨⟨qb, ov, sv⟩, hqb⟩ : ∃ z, z = plAt pl j := ⟨_, rfl⟩
  rw [← hqb] at pa pq ⊢
  obtain ⟨A, c, rfl⟩ := own_forms pa.ops
  obtain ⟨n, hn⟩ : ∃ n, n = r.ops.length := ⟨_, rfl⟩
  rw [← hn] at pa hqb pq
  have hn16 := (HI.out.ops j r hr).1
  rw [← hn] at hn16
  have HN := Lib.hid hn
  have HA := Lib.hid pa
  obtain ⟨flw, hflw⟩ : ∃ n, n = M.flaw := ⟨_, rfl⟩
  obtain ⟨stt, hstt⟩ : ∃ n, n = r.start := ⟨_, rfl⟩
  have HFW := Lib.hid hflw
  have HST := Lib.hid hstt
  have ro := h.row
  unfold rowM at ro
  rw [← hflw] at ro
  have RO := Lib.hid ro
  have ra := pa.row
  unfold actC at ra
  rw [← hstt] at ra
  have RA := Lib.hid ra
  have a7 := RA.out.cell 7
  simp only [List.getElem?_cons_zero, List.getElem?_cons_succ] at a7
  clear h hi hr pq pa hqb hn hflw hstt ro ra
  simp only
  go_enter Try.func36, Try.ntmps36
  go_wp2_with fail
  go_loopw [15] (fun i wr => ∃ s : Nat, s ≤ n ∧ i = .int .i64 s ∧ Hid ((r.ops.take s).any (lateF M stt) = false) ∧ Hid (Below w.heap.size w wr)) (fun i _ => n - (intOf i).toNat)
  case atStart => exact ⟨0, by omega, rfl, rfl, Below.refl _ _⟩
  case round =>
    clear a7
    obtain ⟨s, hs, rfl, HP, HW⟩ := hrel
    by_cases hlt : s < n
    · obtain ⟨g, x, rfl, hx, c0, c1, c2, c3⟩ := own_op (Own.below HA.out.ops HW.out) (i := s) (by rw [← HN.out]; exact hlt)
      have HX := Lib.hid hx
      have HKX := Lib.hid (HI.out.keys j r HR.out x (List.mem_of_getElem? hx)).1
      have HSTEP := Lib.hid (any_step (f := lateF M stt) hx)
      obtain ⟨kd, ky, fd, va⟩ := x
      simp only at c0 c1 c2 c3
      have HKB := Lib.hid (show ky.size ≤ maxLen by have := HKX.out.2; unfold maxLen; exact Nat.le_trans this (by decide))
      have hbx := (Below.refl wr.heap.size wr).alloc (Nat.le_refl _) (.cells #[.int .i64 kd, .string ky, .bool fd, .string va] 67)
      have rbx := RowAt.new wr 67 [.int .i64 kd, .string ky, .bool fd, .string va]
      obtain ⟨W2, hW2⟩ : ∃ WW : World, WW = wr.alloc (.cells #[.int .i64 kd, .string ky, .bool fd, .string va] 67) := ⟨_, rfl⟩
      rw [show (Obj.cells (List.toArray [.int .i64 kd, .string ky, .bool fd, .string va]) 67) = .cells #[.int .i64 kd, .string ky, .bool fd, .string va] 67 from rfl, ← hW2] at rbx
      rw [← hW2] at hbx
      have hs0 : (0 : Int) ≤ (s : Int) := by omega
      have hs1 : (s : Int) < (n : Int) := by omega
      have B2 := Lib.hid (HW.out.trans (hbx.mono HW.out.size))
      have H2 := Lib.hid (H.out.below B2.out)
      have RO2 := Lib.hid (RO.out.below B2.out)
      have RA2 := Lib.hid (RA.out.below B2.out)
      have RX2 := Lib.hid rbx
      have HW2 := Lib.hid hW2
      obtain ⟨⟨a0, a1, a2, a3⟩, hav⟩ : ∃ z, z = (afterV (M.st.2 ky) stt).getD Ver.zero := ⟨_, rfl⟩
      obtain ⟨ab, hab⟩ : ∃ z, z = (afterV (M.st.2 ky) stt).isSome := ⟨_, rfl⟩
      have EV := Lib.hid (show seen (afterV (M.st.2 ky) stt) = .tuple #[.agg #[.int .i64 a0, .int .i64 a1, .bool a2, .string a3], .bool ab] by unfold seen; rw [← hav, ← hab]; rfl)
      have HAB := Lib.hid hab
      obtain ⟨bx, hbxx⟩ : ∃ g, g = wr.heap.size := ⟨_, rfl⟩
      rw [← hbxx] at RX2
      have HBX := Lib.hid hbxx
      clear hbx rbx hW2 hx hav hab hbxx
      go_wp2_with fail
      rw [← HW2.out, ← HBX.out]
      have p4 := RO2.out.cell 4
      have p2 := RA2.out.cell 2
      have p1 := RX2.out.cell 1
      simp only [List.getElem?_cons_zero, List.getElem?_cons_succ] at p2 p4 p1
      have HD := Lib.hid (Below.refl W2.heap.size W2).drew
      have HDA := Lib.hid (HD.out.alloc HD.out.size (.cells #[.int .i64 0, .int .i64 0, .bool false, .string ⟨#[]⟩] 93))
      have RZ := Lib.hid (show RowAt (W2.drew.alloc (.cells #[.int .i64 0, .int .i64 0, .bool false, .string ⟨#[]⟩] 93)) W2.heap.size 93 [.int .i64 0, .int .i64 0, .bool false, .string ⟨#[]⟩] from RowAt.new W2.drew 93 [.int .i64 0, .int .i64 0, .bool false, .string ⟨#[]⟩])
      have q0 : (W2.drew.cell? ⟨m, 4, none⟩ = some (.pointer (some ⟨p, 0, none⟩)) ∧ W2.drew.cell? ⟨qb, 2, none⟩ = some (.int .i64 stt) ∧ W2.drew.cell? ⟨bx, 1, none⟩ = some (.string ky)) := ⟨p4, p2, p1⟩
      have qa : ∀ o, ((W2.drew.alloc o).cell? ⟨m, 4, none⟩ = some (.pointer (some ⟨p, 0, none⟩)) ∧ (W2.drew.alloc o).cell? ⟨qb, 2, none⟩ = some (.int .i64 stt) ∧ (W2.drew.alloc o).cell? ⟨bx, 1, none⟩ = some (.string ky)) := fun o => ⟨(RO2.out.drew.alloc o).cell 4, (RA2.out.drew.alloc o).cell 2, (RX2.out.drew.alloc o).cell 1⟩
      have qb' : ∀ o, ((W2.alloc o).cell? ⟨m, 4, none⟩ = some (.pointer (some ⟨p, 0, none⟩)) ∧ (W2.alloc o).cell? ⟨qb, 2, none⟩ = some (.int .i64 stt) ∧ (W2.alloc o).cell? ⟨bx, 1, none⟩ = some (.string ky)) := fun o => ⟨(RO2.out.alloc o).cell 4, (RA2.out.alloc o).cell 2, (RX2.out.alloc o).cell 1⟩
      have qc : ∀ o, ((W2.alloc o).drew.cell? ⟨m, 4, none⟩ = some (.pointer (some ⟨p, 0, none⟩)) ∧ (W2.alloc o).drew.cell? ⟨qb, 2, none⟩ = some (.int .i64 stt) ∧ (W2.alloc o).drew.cell? ⟨bx, 1, none⟩ = some (.string ky)) := fun o => ⟨(RO2.out.alloc o).cell 4, (RA2.out.alloc o).cell 2, (RX2.out.alloc o).cell 1⟩
      go_region_held3 (fun w' => (w'.cell? ⟨m, 4, none⟩ = some (.pointer (some ⟨p, 0, none⟩)) ∧ w'.cell? ⟨qb, 2, none⟩ = some (.int .i64 stt) ∧ w'.cell? ⟨bx, 1, none⟩ = some (.string ky)))
        (first | with_reducible exact q3 _ _ _ _ | with_reducible exact q2 _ | with_reducible exact q1 | with_reducible exact qa _ | with_reducible exact qb' _ | with_reducible exact qc _ | with_reducible exact q0 | with_reducible exact ⟨p4, p2, p1⟩)
        (first
          | (go_at_call 49; refine (after_any Fs p M.st.1 N M.st.2 ky stt _ (H2.out.sto.below HD.out) HKB.out hN (HI.out.rise ky)).mono ?_; rintro e w3 ⟨he, b3⟩; rw [EV.out] at he; subst he; have B3 := Lib.hid (HD.out.trans (b3.mono HD.out.size)); have ro3 := RO2.out.below B3.out; have ra3 := RA2.out.below B3.out; have rx3 := RX2.out.below B3.out; have q1 : (w3.cell? ⟨m, 4, none⟩ = some (.pointer (some ⟨p, 0, none⟩)) ∧ w3.cell? ⟨qb, 2, none⟩ = some (.int .i64 stt) ∧ w3.cell? ⟨bx, 1, none⟩ = some (.string ky)) := ⟨ro3.cell 4, ra3.cell 2, rx3.cell 1⟩; have q2 : ∀ o, ((w3.alloc o).cell? ⟨m, 4, none⟩ = some (.pointer (some ⟨p, 0, none⟩)) ∧ (w3.alloc o).cell? ⟨qb, 2, none⟩ = some (.int .i64 stt) ∧ (w3.alloc o).cell? ⟨bx, 1, none⟩ = some (.string ky)) := fun o => ⟨(ro3.alloc o).cell 4, (ra3.alloc o).cell 2, (rx3.alloc o).cell 1⟩; clear b3)
          | (go_at_call 49; refine (after_any Fs p M.st.1 N M.st.2 ky stt _ (H2.out.sto.below HDA.out) HKB.out hN (HI.out.rise ky)).mono ?_; rintro e w3 ⟨he, b3⟩; rw [EV.out] at he; subst he; have B3 := Lib.hid (HDA.out.trans (b3.mono HDA.out.size)); have ro3 := RO2.out.below B3.out; have ra3 := RA2.out.below B3.out; have rx3 := RX2.out.below B3.out; have q1 : (w3.cell? ⟨m, 4, none⟩ = some (.pointer (some ⟨p, 0, none⟩)) ∧ w3.cell? ⟨qb, 2, none⟩ = some (.int .i64 stt) ∧ w3.cell? ⟨bx, 1, none⟩ = some (.string ky)) := ⟨ro3.cell 4, ra3.cell 2, rx3.cell 1⟩; have rz3 := Lib.hid (RZ.out.below b3); have zc := rz3.out.cell; have zf := rz3.out.frozen; have hne : W2.heap.size ≠ m := fun e => rz3.out.ne ro3 (by decide) e; have hne2 : W2.heap.size ≠ qb := fun e => rz3.out.ne ra3 (by decide) e; have hne3 : W2.heap.size ≠ bx := fun e => rz3.out.ne rx3 (by decide) e;
             have q3 : ∀ (a b c d : Value), ((((((w3.setCell ⟨W2.heap.size, 0, none⟩ a).setCell ⟨W2.heap.size, 1, none⟩ b).setCell ⟨W2.heap.size, 2, none⟩ c).setCell ⟨W2.heap.size, 3, none⟩ d)).cell? ⟨m, 4, none⟩ = some (.pointer (some ⟨p, 0, none⟩)) ∧ (((((w3.setCell ⟨W2.heap.size, 0, none⟩ a).setCell ⟨W2.heap.size, 1, none⟩ b).setCell ⟨W2.heap.size, 2, none⟩ c).setCell ⟨W2.heap.size, 3, none⟩ d)).cell? ⟨qb, 2, none⟩ = some (.int .i64 stt) ∧ (((((w3.setCell ⟨W2.heap.size, 0, none⟩ a).setCell ⟨W2.heap.size, 1, none⟩ b).setCell ⟨W2.heap.size, 2, none⟩ c).setCell ⟨W2.heap.size, 3, none⟩ d)).cell? ⟨bx, 1, none⟩ = some (.string ky)) := fun a b c d => ⟨((((ro3.far hne.symm a).far hne.symm b).far hne.symm c).far hne.symm d).cell 4, ((((ra3.far hne2.symm a).far hne2.symm b).far hne2.symm c).far hne2.symm d).cell 2, ((((rx3.far hne3.symm a).far hne3.symm b).far hne3.symm c).far hne3.symm d).cell 1⟩; clear b3))
      · have hbx : Below W2.heap.size W2 (w3.alloc (.cells #[.int .i64 a0, .int .i64 a1, .bool a2, .string a3] 93)) := B3.out.alloc B3.out.size _
        obtain ⟨W3, hW3⟩ : ∃ WW : World, WW = (w3.alloc (.cells #[.int .i64 a0, .int .i64 a1, .bool a2, .string a3] 93)) := ⟨_, rfl⟩
        rw [← hW3] at hbx ⊢
        clear q1 q2
        have B4 := Lib.hid (B2.out.trans (hbx.mono B2.out.size))
        have f0 := (RO2.out.below hbx).cell 0
        have z0 := (RX2.out.below hbx).cell 0
        simp only [List.getElem?_cons_zero] at f0 z0
        clear hW3 hbx q0 qa qb' qc p1 p2 p4 ro3 ra3 rx3 B3 HD HDA RZ
        cases ab with
        | false =>
          have HQ := Lib.hid (show (r.ops.take (s + 1)).any (lateF M stt) = false by rw [HSTEP.out, HP.out]; unfold lateF; simp only; rw [← HAB.out]; rfl)
          go_wp2_with fail
          exact ⟨⟨s + 1, by omega, rfl, HQ, B4⟩, by show n - ((s : Int) + 1).toNat < n - (s : Int).toNat; omega⟩
        | true =>
          by_cases k1 : kd = 1
          · have HQ := Lib.hid (show (r.ops.take (s + 1)).any (lateF M stt) = false by rw [HSTEP.out, HP.out]; unfold lateF; simp only; rw [k1]; simp)
            go_wp2_with fail
            exact ⟨⟨s + 1, by omega, rfl, HQ, B4⟩, by show n - ((s : Int) + 1).toNat < n - (s : Int).toNat; omega⟩
          · have k2 : (kd == 1) = false := by simpa using k1
            by_cases f1 : flw = 1
            · have HQ := Lib.hid (show (r.ops.take (s + 1)).any (lateF M stt) = false by rw [HSTEP.out, HP.out]; unfold lateF; simp only; rw [← HFW.out, f1]; simp)
              go_wp2_with fail
              exact ⟨⟨s + 1, by omega, rfl, HQ, B4⟩, by show n - ((s : Int) + 1).toNat < n - (s : Int).toNat; omega⟩
            · have f2 : (flw == 1) = false := by simpa using f1
              have HE := Lib.hid (show passF M r = false by
                unfold passF
                rw [← HST.out, any_yes HX.out (by unfold lateF; simp only; rw [← HAB.out, ← HFW.out, k2, f2]; rfl)]
                rfl)
              go_wp2_with fail
              go_ret
              exact ⟨by rw [HE.out]; rfl, B4.out⟩
      · have hbx : Below W2.heap.size W2 ((((w3.setCell ⟨W2.heap.size, 0, none⟩ (.int .i64 a0)).setCell ⟨W2.heap.size, 1, none⟩ (.int .i64 a1)).setCell ⟨W2.heap.size, 2, none⟩ (.bool a2)).setCell ⟨W2.heap.size, 3, none⟩ (.string a3)) := (((B3.out.setCell (p := ⟨W2.heap.size, 0, none⟩) (Nat.le_refl _) _).setCell (p := ⟨W2.heap.size, 1, none⟩) (Nat.le_refl _) _).setCell (p := ⟨W2.heap.size, 2, none⟩) (Nat.le_refl _) _).setCell (p := ⟨W2.heap.size, 3, none⟩) (Nat.le_refl _) _
        obtain ⟨W3, hW3⟩ : ∃ WW : World, WW = ((((w3.setCell ⟨W2.heap.size, 0, none⟩ (.int .i64 a0)).setCell ⟨W2.heap.size, 1, none⟩ (.int .i64 a1)).setCell ⟨W2.heap.size, 2, none⟩ (.bool a2)).setCell ⟨W2.heap.size, 3, none⟩ (.string a3)) := ⟨_, rfl⟩
        rw [← hW3] at hbx ⊢
        clear q1 q3 zc zf rz3 hne hne2 hne3
        have B4 := Lib.hid (B2.out.trans (hbx.mono B2.out.size))
        have f0 := (RO2.out.below hbx).cell 0
        have z0 := (RX2.out.below hbx).cell 0
        simp only [List.getElem?_cons_zero] at f0 z0
        clear hW3 hbx q0 qa qb' qc p1 p2 p4 ro3 ra3 rx3 B3 HD HDA RZ
        cases ab with
        | false =>
          have HQ := Lib.hid (show (r.ops.take (s + 1)).any (lateF M stt) = false by rw [HSTEP.out, HP.out]; unfold lateF; simp only; rw [← HAB.out]; rfl)
          go_wp2_with fail
          exact ⟨⟨s + 1, by omega, rfl, HQ, B4⟩, by show n - ((s : Int) + 1).toNat < n - (s : Int).toNat; omega⟩
        | true =>
          by_cases k1 : kd = 1
          · have HQ := Lib.hid (show (r.ops.take (s + 1)).any (lateF M stt) = false by rw [HSTEP.out, HP.out]; unfold lateF; simp only; rw [k1]; simp)
            go_wp2_with fail
            exact ⟨⟨s + 1, by omega, rfl, HQ, B4⟩, by show n - ((s : Int) + 1).toNat < n - (s : Int).toNat; omega⟩
          · have k2 : (kd == 1) = false := by simpa using k1
            by_cases f1 : flw = 1
            · have HQ := Lib.hid (show (r.ops.take (s + 1)).any (lateF M stt) = false by rw [HSTEP.out, HP.out]; unfold lateF; simp only; rw [← HFW.out, f1]; simp)
              go_wp2_with fail
              exact ⟨⟨s + 1, by omega, rfl, HQ, B4⟩, by show n - ((s : Int) + 1).toNat < n - (s : Int).toNat; omega⟩
            · have f2 : (flw == 1) = false := by simpa using f1
              have HE := Lib.hid (show passF M r = false by
                unfold passF
                rw [← HST.out, any_yes HX.out (by unfold lateF; simp only; rw [← HAB.out, ← HFW.out, k2, f2]; rfl)]
                rfl)
              go_wp2_with fail
              go_ret
              exact ⟨by rw [HE.out]; rfl, B4.out⟩
    · obtain rfl : s = n := by omega
      have HE := Lib.hid (show passF M r = true by unfold passF; have := HP.out; rw [List.take_of_length_le (by rw [← HN.out]; exact Nat.le_refl _)] at this; rw [← HST.out, this]; rfl)
      go_wp2_with fail
      go_ret
      exact ⟨by rw [HE.out]; rfl, HW.out⟩

end Go.Proofs.Ytfodagidmdbmlaa
