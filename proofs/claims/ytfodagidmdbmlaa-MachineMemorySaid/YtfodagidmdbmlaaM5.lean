/- Value, Active, Now. -/
import Derived.Test.YtfodagidmdbmlaaM4
import Derived.Deep.RegionHeld3
namespace Go.Proofs.Ytfodagidmdbmlaa
set_option linter.unusedVariables false
set_option linter.unusedSimpArgs false
open Go.RowKit

def valueF (M : Mach) (k : ByteArray) : ByteArray × Bool := (((atV (M.st.2 k) M.clock).getD Ver.zero).value, ((atV (M.st.2 k) M.clock).getD Ver.zero).found)
def activeF (M : Mach) (s : Int) : Bool := decide (0 ≤ s) && (decide (s < M.sess.length) && (M.sess.getD s.toNat (none, 0)).1.isSome)
set_option maxRecDepth 100000 in
set_option maxHeartbeats 4000000 in
theorem now_any (m : Nat) (M : Mach) (gs p : Nat) (lv : Value) (pl : List Pl) (Fs : Nat → Prop) (N : Nat) (w : World) (h : MachAt w m M gs p lv pl Fs N) :
    Calls Try.prog 30 #[.pointer (some ⟨m, 0, none⟩)] w fun e w' => e = .returned (.int .i64 M.clock) ∧ w' = w := by
  have m1 := h.row.cell 1
  simp only [rowM, List.getElem?_cons_zero, List.getElem?_cons_succ] at m1
  clear h
  go_enter Try.func30, Try.ntmps30
  go_wp2_with fail
  go_ret
  exact ⟨rfl, rfl⟩
set_option maxRecDepth 100000 in
set_option maxHeartbeats 4000000 in
theorem active_any (m : Nat) (M : Mach) (gs p : Nat) (lv : Value) (pl : List Pl) (Fs : Nat → Prop) (N : Nat) (s : Int) (w : World) (h : MachAt w m M gs p lv pl Fs N) (hn : M.sess.length ≤ 64) :
    Calls Try.prog 17 #[.pointer (some ⟨m, 0, none⟩), .int .i64 s] w fun e w' => e = .returned (.bool (activeF M s)) ∧ w' = w := by
  have H := Lib.hid h
  have m3 := h.row.cell 3
  simp only [rowM, List.getElem?_cons_zero, List.getElem?_cons_succ] at m3
  obtain ⟨n, hnn⟩ : ∃ n, n = M.sess.length := ⟨_, rfl⟩
  rw [← hnn] at m3 hn
  have HN := Lib.hid hnn
  clear h hnn
  by_cases h1 : 0 ≤ s
  · by_cases h2 : s < (n : Int)
    · obtain ⟨j, rfl⟩ : ∃ j : Nat, s = (j : Int) := ⟨s.toNat, by omega⟩
      obtain ⟨⟨o, sq⟩, hx⟩ : ∃ x, M.sess[j]? = some x := ⟨_, List.getElem?_eq_getElem (by rw [← HN.out]; omega)⟩
      obtain ⟨x0, x1⟩ := H.out.sess hx
      have e : activeF M j = o.isSome := by
        unfold activeF
        rw [decide_eq_true h1, ← HN.out, decide_eq_true h2, Int.toNat_natCast, List.getD_eq_getElem?_getD, hx]
        rfl
      have hd1 : decide ((j : Int) ≥ 0) = true := decide_eq_true (by omega)
      have hd2 : decide ((j : Int) < (n : Int)) = true := decide_eq_true h2
      rw [e]
      clear e hx x1
      cases o with
      | none =>
        simp only [Option.map_none] at x0
        go_enter Try.func17, Try.ntmps17
        go_wp2_with fail
        go_ret
        exact ⟨rfl, rfl⟩
      | some i =>
        simp only [Option.map_some] at x0
        go_enter Try.func17, Try.ntmps17
        go_wp2_with fail
        go_ret
        exact ⟨rfl, rfl⟩
    · have e : activeF M s = false := by
        unfold activeF
        rw [← HN.out, decide_eq_false h2]
        simp
      rw [e]
      have hd1 : decide (s ≥ 0) = true := decide_eq_true (by omega)
      have hd2 : decide (s < (n : Int)) = false := decide_eq_false h2
      go_enter Try.func17, Try.ntmps17
      go_wp2_with fail
      go_ret
      exact ⟨rfl, rfl⟩
  · have e : activeF M s = false := by
      unfold activeF
      rw [decide_eq_false h1]
      simp
    rw [e]
    have hd1 : decide (s ≥ 0) = false := decide_eq_false (by omega)
    go_enter Try.func17, Try.ntmps17
    go_wp2_with fail
    go_ret
    exact ⟨rfl, rfl⟩
theorem set4_row {w : World} {g : Nat} {T : TypeId} {p q r s : Value} (h : RowAt w g T [p, q, r, s]) (a b c d : Value) : RowAt ((((w.setCell ⟨g, 0, none⟩ a).setCell ⟨g, 1, none⟩ b).setCell ⟨g, 2, none⟩ c).setCell ⟨g, 3, none⟩ d) g T [a, b, c, d] :=
  (((h.set 0 a).set 1 b).set 2 c).set 3 d
set_option maxRecDepth 100000 in
set_option maxHeartbeats 4000000 in
theorem value_any (m : Nat) (M : Mach) (gs p : Nat) (lv : Value) (pl : List Pl) (Fs : Nat → Prop) (N : Nat) (k : ByteArray) (w : World) (h : MachAt w m M gs p lv pl Fs N) (hi : MInv M) (hk : k.size ≤ maxLen) (hN : N < 3000000000000) :
    Calls Try.prog 19 #[.pointer (some ⟨m, 0, none⟩), .string k] w fun e w' => e = .returned (.tuple #[.string (valueF M k).1, .bool (valueF M k).2]) ∧ Below w.heap.size w w' := by
  have H := Lib.hid h
  have HI := Lib.hid hi
  have HK := Lib.hid hk
  have HD := Lib.hid (Below.refl w.heap.size w).drew
  obtain ⟨clk, hclk⟩ : ∃ n, n = M.clock := ⟨_, rfl⟩
  have rw0 := h.row
  unfold rowM at rw0
  rw [← hclk] at rw0
  have ROW := Lib.hid rw0
  have HCL := Lib.hid hclk
  obtain ⟨⟨a0, a1, a2, a3⟩, hav⟩ : ∃ z, z = (atV (M.st.2 k) clk).getD Ver.zero := ⟨_, rfl⟩
  obtain ⟨ob, hob⟩ : ∃ z, z = (atV (M.st.2 k) clk).isSome := ⟨_, rfl⟩
  have EV := Lib.hid (show seen (atV (M.st.2 k) clk) = .tuple #[.agg #[.int .i64 a0, .int .i64 a1, .bool a2, .string a3], .bool ob] by unfold seen; rw [← hav, ← hob]; rfl)
  have EF := Lib.hid (show valueF M k = (a3, a2) by unfold valueF; rw [← HCL.out, ← hav])
  rw [EF.out]
  have p1 := ROW.out.cell 1
  have p4 := ROW.out.cell 4
  simp only [List.getElem?_cons_zero, List.getElem?_cons_succ] at p1 p4
  clear h hi hk hclk rw0 hav hob
  have HDA := Lib.hid (HD.out.alloc HD.out.size (.cells #[.int .i64 0, .int .i64 0, .bool false, .string ⟨#[]⟩] 93))
  have RZ := Lib.hid (show RowAt (w.drew.alloc (.cells #[.int .i64 0, .int .i64 0, .bool false, .string ⟨#[]⟩] 93)) w.heap.size 93 [.int .i64 0, .int .i64 0, .bool false, .string ⟨#[]⟩] from RowAt.new w.drew 93 [.int .i64 0, .int .i64 0, .bool false, .string ⟨#[]⟩])
  have qa : ∀ o, (w.drew.alloc o).cell? ⟨m, 1, none⟩ = some (.int .i64 clk) ∧ (w.drew.alloc o).cell? ⟨m, 4, none⟩ = some (.pointer (some ⟨p, 0, none⟩)) := fun o => ⟨(ROW.out.drew.alloc o).cell 1, (ROW.out.drew.alloc o).cell 4⟩
  have qb : ∀ o, (w.alloc o).cell? ⟨m, 1, none⟩ = some (.int .i64 clk) ∧ (w.alloc o).cell? ⟨m, 4, none⟩ = some (.pointer (some ⟨p, 0, none⟩)) := fun o => ⟨(ROW.out.alloc o).cell 1, (ROW.out.alloc o).cell 4⟩
  have qc : ∀ o, (w.alloc o).drew.cell? ⟨m, 1, none⟩ = some (.int .i64 clk) ∧ (w.alloc o).drew.cell? ⟨m, 4, none⟩ = some (.pointer (some ⟨p, 0, none⟩)) := fun o => ⟨(ROW.out.alloc o).cell 1, (ROW.out.alloc o).cell 4⟩
  have q0 : w.drew.cell? ⟨m, 1, none⟩ = some (.int .i64 clk) ∧ w.drew.cell? ⟨m, 4, none⟩ = some (.pointer (some ⟨p, 0, none⟩)) := ⟨p1, p4⟩
  go_enter Try.func19, Try.ntmps19
  go_wp2_with fail
  go_region_held3 (fun w' => w'.cell? ⟨m, 1, none⟩ = some (.int .i64 clk) ∧ w'.cell? ⟨m, 4, none⟩ = some (.pointer (some ⟨p, 0, none⟩)))
    (first | with_reducible exact q3 _ _ _ _ | with_reducible exact q2 _ | with_reducible exact q1 | with_reducible exact qa _ | with_reducible exact qb _ | with_reducible exact qc _ | with_reducible exact q0 | with_reducible exact ⟨p1, p4⟩)
    (first
      | (go_at_call 38; refine (at_any Fs p M.st.1 N M.st.2 k clk _ (H.out.sto.below HD.out) HK.out hN (HI.out.rise k)).mono ?_; rintro e w2 ⟨he, b2⟩; rw [EV.out] at he; subst he; have B2 := Lib.hid (HD.out.trans (b2.mono HD.out.size)); have ro2 := ROW.out.below B2.out; have q1 : w2.cell? ⟨m, 1, none⟩ = some (.int .i64 clk) ∧ w2.cell? ⟨m, 4, none⟩ = some (.pointer (some ⟨p, 0, none⟩)) := ⟨ro2.cell 1, ro2.cell 4⟩; have q2 : ∀ o, (w2.alloc o).cell? ⟨m, 1, none⟩ = some (.int .i64 clk) ∧ (w2.alloc o).cell? ⟨m, 4, none⟩ = some (.pointer (some ⟨p, 0, none⟩)) := fun o => ⟨(ro2.alloc o).cell 1, (ro2.alloc o).cell 4⟩; clear b2)
      | (go_at_call 38; refine (at_any Fs p M.st.1 N M.st.2 k clk _ (H.out.sto.below HDA.out) HK.out hN (HI.out.rise k)).mono ?_; rintro e w2 ⟨he, b2⟩; rw [EV.out] at he; subst he; have B2 := Lib.hid (HDA.out.trans (b2.mono HDA.out.size)); have ro2 := ROW.out.below B2.out; have q1 : w2.cell? ⟨m, 1, none⟩ = some (.int .i64 clk) ∧ w2.cell? ⟨m, 4, none⟩ = some (.pointer (some ⟨p, 0, none⟩)) := ⟨ro2.cell 1, ro2.cell 4⟩; have rz2 := Lib.hid (RZ.out.below b2); have zc := rz2.out.cell; have zf := rz2.out.frozen; have hne : w.heap.size ≠ m := fun e => rz2.out.ne ro2 (by decide) e; have q3 : ∀ (a b c d : Value), ((((w2.setCell ⟨w.heap.size, 0, none⟩ a).setCell ⟨w.heap.size, 1, none⟩ b).setCell ⟨w.heap.size, 2, none⟩ c).setCell ⟨w.heap.size, 3, none⟩ d).cell? ⟨m, 1, none⟩ = some (.int .i64 clk) ∧ ((((w2.setCell ⟨w.heap.size, 0, none⟩ a).setCell ⟨w.heap.size, 1, none⟩ b).setCell ⟨w.heap.size, 2, none⟩ c).setCell ⟨w.heap.size, 3, none⟩ d).cell? ⟨m, 4, none⟩ = some (.pointer (some ⟨p, 0, none⟩)) := fun a b c d => ⟨((((ro2.far hne.symm a).far hne.symm b).far hne.symm c).far hne.symm d).cell 1, ((((ro2.far hne.symm a).far hne.symm b).far hne.symm c).far hne.symm d).cell 4⟩; clear b2))
  · have rz := RowAt.new w2 93 [.int .i64 a0, .int .i64 a1, .bool a2, .string a3]
    have z2 := rz.cell 2
    have z3 := rz.cell 3
    simp only [List.getElem?_cons_zero, List.getElem?_cons_succ] at z2 z3
    have B3 := Lib.hid (B2.out.alloc B2.out.size (.cells #[.int .i64 a0, .int .i64 a1, .bool a2, .string a3] 93))
    clear q0 q1 q2 qa qb qc p1 p4
    go_wp2_with fail
    go_region
    go_wp2_with fail
    refine bodyPost_ret (results_tmp2 rfl _ _ _) rfl ⟨rfl, B3.out.drew⟩
  · have rz := set4_row rz2.out (.int .i64 a0) (.int .i64 a1) (.bool a2) (.string a3)
    have z2 := rz.cell 2
    have z3 := rz.cell 3
    simp only [List.getElem?_cons_zero, List.getElem?_cons_succ] at z2 z3
    have B3 := Lib.hid ((((B2.out.setCell (p := ⟨w.heap.size, 0, none⟩) (Nat.le_refl _) (.int .i64 a0)).setCell (p := ⟨w.heap.size, 1, none⟩) (Nat.le_refl _) (.int .i64 a1)).setCell (p := ⟨w.heap.size, 2, none⟩) (Nat.le_refl _) (.bool a2)).setCell (p := ⟨w.heap.size, 3, none⟩) (Nat.le_refl _) (.string a3))
    clear q0 q1 q3 qa qb qc p1 p4 zc zf
    go_wp2_with fail
    go_region
    go_wp2_with fail
    refine bodyPost_ret (results_tmp2 rfl _ _ _) rfl ⟨rfl, B3.out.drew⟩

end Go.Proofs.Ytfodagidmdbmlaa
