/- step: After. -/
import Derived.Test.YtkbnfnfjmofcmaaRq
namespace Go.Proofs.Ytkbnfnfjmofcmaa
set_option linter.unusedVariables false
set_option linter.unusedSimpArgs false
open Go.RowKit

theorem set4_turn (w : World) (g : Nat) (a b c d : Value) : Turn (fun i => i = g) w ((((w.setCell ⟨g, 0, none⟩ a).setCell ⟨g, 1, none⟩ b).setCell ⟨g, 2, none⟩ c).setCell ⟨g, 3, none⟩ d) := by
  have h := fun (x : World) (j : Nat) (v : Value) (hx : Turn (fun i => i = g) w x) => Turn.setCell (S := fun i => i = g) (p := ⟨g, j, none⟩) hx (.inl rfl) v
  exact h _ 3 d (h _ 2 c (h _ 1 b (h _ 0 a (Turn.refl _ _))))
theorem set4_row {w : World} {g : Nat} {T : TypeId} {p q r s : Value} (h : RowAt w g T [p, q, r, s]) (a b c d : Value) : RowAt ((((w.setCell ⟨g, 0, none⟩ a).setCell ⟨g, 1, none⟩ b).setCell ⟨g, 2, none⟩ c).setCell ⟨g, 3, none⟩ d) g T [a, b, c, d] :=
  (((h.set 0 a).set 1 b).set 2 c).set 3 d
set_option maxRecDepth 100000 in
set_option maxHeartbeats 4000000 in
theorem step_after (F G : Nat → Prop) (p r N M : Nat) (s : Store) (all : List RV) (t : Int) (k : ByteArray) (v : Ver) (w : World) (hS : SAt F w p s.1 N s.2) (hR : RAt G w r M all) (hsim : Sim s all) (hk : k.size ≤ maxLen) (hN : N < 3000000000000) (hM : M < 2300000000000) :
    Calls Try.prog 19 #[.pointer (some ⟨p, 0, none⟩), .pointer (some ⟨r, 0, none⟩), .agg #[.int .i64 3, .int .i64 t, .string k, .int .i64 v.commit, .int .i64 v.writer, .bool v.found, .string v.value]] w fun e w' => e = .returned (.bool true) ∧ Below w.heap.size w w' := by
  obtain ⟨vc, vw, vf, vv⟩ := v
  have hba := (Below.refl w.heap.size w).alloc (Nat.le_refl _) (.cells #[.int .i64 3, .int .i64 t, .string k, .int .i64 vc, .int .i64 vw, .bool vf, .string vv] 35)
  have rba := RowAt.new w 35 [.int .i64 3, .int .i64 t, .string k, .int .i64 vc, .int .i64 vw, .bool vf, .string vv]
  obtain ⟨W0, hW0⟩ : ∃ WW : World, WW = w.alloc (.cells #[.int .i64 3, .int .i64 t, .string k, .int .i64 vc, .int .i64 vw, .bool vf, .string vv] 35) := ⟨_, rfl⟩
  rw [show (Obj.cells (List.toArray [.int .i64 3, .int .i64 t, .string k, .int .i64 vc, .int .i64 vw, .bool vf, .string vv]) 35) = .cells #[.int .i64 3, .int .i64 t, .string k, .int .i64 vc, .int .i64 vw, .bool vf, .string vv] 35 from rfl, ← hW0] at rba
  rw [← hW0] at hba
  have HS := Lib.hid (hS.below hba)
  have HR := Lib.hid (hR.below hba)
  have HB := Lib.hid hba
  have RB := Lib.hid rba
  have HW0 := Lib.hid hW0
  have HK := Lib.hid hk
  have HI := Lib.hid (hsim.good.inc k)
  obtain ⟨bo, hbo⟩ : ∃ o, o = atV (s.2 k) t := ⟨_, rfl⟩
  obtain ⟨⟨b0, b1, b2, b3⟩, hbv⟩ : ∃ z, z = bo.getD Ver.zero := ⟨_, rfl⟩
  obtain ⟨bb, hbb⟩ : ∃ z, z = bo.isSome := ⟨_, rfl⟩
  have EB := Lib.hid (show seen (atV (s.2 k) t) = .tuple #[.agg #[.int .i64 b0, .int .i64 b1, .bool b2, .string b3], .bool bb] by rw [← hbo]; unfold seen; rw [← hbv, ← hbb]; rfl)
  clear hbv hbb hbo bo
  obtain ⟨ro, hro⟩ : ∃ o, o = bestF (atP k t) aboveB all := ⟨_, rfl⟩
  obtain ⟨⟨zk, ⟨z0, z1, z2, z3⟩⟩, hrv⟩ : ∃ z, z = ro.getD RV.zero := ⟨_, rfl⟩
  obtain ⟨rb, hrb⟩ : ∃ z, z = ro.isSome := ⟨_, rfl⟩
  have EZ := Lib.hid (show rseen (bestF (atP k t) aboveB all) = .tuple #[.agg #[.string zk, .int .i64 z0, .int .i64 z1, .bool z2, .string z3], .bool rb] by rw [← hro]; unfold rseen; rw [← hrv, ← hrb]; rfl)
  clear hrv hrb hro ro
  obtain ⟨hm1, hm2⟩ := map_some (hsim.after k t)
  obtain ⟨ao, hao⟩ : ∃ o, o = afterV (s.2 k) t := ⟨_, rfl⟩
  obtain ⟨o, ho⟩ : ∃ o, o = bestF (afterP k t) belowB all := ⟨_, rfl⟩
  rw [← hao, ← ho] at hm1 hm2
  have HAO := Lib.hid hao
  have HO := Lib.hid ho
  obtain ⟨ob, hob⟩ : ∃ z, z = ao.isSome := ⟨_, rfl⟩
  obtain ⟨⟨a0, a1, a2, a3⟩, hav⟩ : ∃ z, z = ao.getD Ver.zero := ⟨_, rfl⟩
  obtain ⟨⟨yk, yv⟩, hy⟩ : ∃ z, z = o.getD RV.zero := ⟨_, rfl⟩
  rw [← hob] at hm1
  rw [← hav, ← hy] at hm2
  simp only at hm2
  subst hm2
  have EV1 := Lib.hid (show seen ao = .tuple #[.agg #[.int .i64 a0, .int .i64 a1, .bool a2, .string a3], .bool ob] by unfold seen; rw [← hav, ← hob]; rfl)
  have EV2 := Lib.hid (show rseen o = .tuple #[.agg #[.string yk, .int .i64 a0, .int .i64 a1, .bool a2, .string a3], .bool ob] by unfold rseen; rw [← hy, hm1]; rfl)
  have HLI := Lib.hid ((Ver.eqb_iff ⟨a0, a1, a2, a3⟩ ⟨a0, a1, a2, a3⟩).2 rfl)
  have hqq : (ob == ob) = true := by simp
  clear hba rba hS hR hsim hk hW0 hao ho hob hav hy hm1
  go_enter Try.func19, Try.ntmps19
  go_wp2_with fail
  rw [← HW0.out]
  refine (at_any F p s.1 N s.2 k t _ HS.out HK.out hN HI.out.rising).mono ?_
  rintro e w1 ⟨he, b1'⟩
  rw [EB.out] at he
  subst he
  have r1 := RB.out.below b1'
  have c0 := r1.cell 0
  have c1 := r1.cell 1
  have c2 := r1.cell 2
  simp only [List.getElem?_cons_zero, List.getElem?_cons_succ] at c0 c1 c2
  have R1 := Lib.hid r1
  have B1 := Lib.hid (HB.out.trans (b1'.mono HB.out.size))
  have HR1 := Lib.hid (HR.out.below b1')
  have HS1 := Lib.hid (HS.out.below b1')
  have h0 : ∀ o, (w1.alloc o).cell? ⟨w.heap.size, 0, none⟩ = some (.int .i64 3) := fun o => (R1.out.alloc o).cell 0
  have h1 : ∀ o, (w1.alloc o).cell? ⟨w.heap.size, 1, none⟩ = some (.int .i64 t) := fun o => (R1.out.alloc o).cell 1
  have h2 : ∀ o, (w1.alloc o).cell? ⟨w.heap.size, 2, none⟩ = some (.string k) := fun o => (R1.out.alloc o).cell 2
  clear r1 b1'
  go_wp2_with fail
  have hbb := (Below.refl w1.heap.size w1).alloc (Nat.le_refl _) (.cells #[.int .i64 b0, .int .i64 b1, .bool b2, .string b3] 27)
  have rbb := RowAt.new w1 27 [.int .i64 b0, .int .i64 b1, .bool b2, .string b3]
  refine (rat_any G r M all k t _ (HR1.out.below hbb) hM).mono ?_
  rintro e w2 ⟨he, b2'⟩
  rw [EZ.out] at he
  subst he
  have V2 := Lib.hid (rbb.below b2')
  have R2 := Lib.hid ((R1.out.below hbb).below b2')
  have B2 := Lib.hid (B1.out.trans ((hbb.trans (b2'.mono hbb.size)).mono B1.out.size))
  have HR2 := Lib.hid ((HR1.out.below hbb).below b2')
  have HS2 := Lib.hid ((HS1.out.below hbb).below b2')
  have h5 : ∀ o, (w2.alloc o).cell? ⟨w.heap.size, 0, none⟩ = some (.int .i64 3) := fun o => (R2.out.alloc o).cell 0
  have h6 : ∀ o, (w2.alloc o).cell? ⟨w.heap.size, 1, none⟩ = some (.int .i64 t) := fun o => (R2.out.alloc o).cell 1
  have h7 : ∀ o, (w2.alloc o).cell? ⟨w.heap.size, 2, none⟩ = some (.string k) := fun o => (R2.out.alloc o).cell 2
  have hle2 : w1.heap.size ≤ w2.heap.size := Nat.le_trans hbb.size b2'.size
  clear hbb rbb b2' c0 c1 c2 h0 h1 h2
  go_wp2_with fail
  have hb3 := (Below.refl w2.heap.size w2).alloc (Nat.le_refl _) (.cells #[.string zk, .int .i64 z0, .int .i64 z1, .bool z2, .string z3] 54)
  have rb3 := RowAt.new w2 54 [.string zk, .int .i64 z0, .int .i64 z1, .bool z2, .string z3]
  refine (after_any F p s.1 N s.2 k t _ (HS2.out.below hb3) HK.out hN HI.out.rising).mono ?_
  rintro e w3 ⟨he, b3'⟩
  rw [← HAO.out, EV1.out] at he
  subst he
  have V3 := Lib.hid ((V2.out.below hb3).below b3')
  have Z3 := Lib.hid (rb3.below b3')
  have R3 := Lib.hid ((R2.out.below hb3).below b3')
  have B3 := Lib.hid (B2.out.trans ((hb3.trans (b3'.mono hb3.size)).mono B2.out.size))
  have HR3 := Lib.hid ((HR2.out.below hb3).below b3')
  have vc' := V3.out.cell
  have vf' := V3.out.frozen
  have r1' := R3.out.cell 1
  have r2' := R3.out.cell 2
  simp only [List.getElem?_cons_zero, List.getElem?_cons_succ] at r1' r2'
  have hne1 : w1.heap.size ≠ w.heap.size := fun e => (V2.out.ne R2.out (by decide)) e
  clear hb3 rb3 b3' h5 h6 h7
  go_wp2_with fail
  obtain ⟨WS, hWS⟩ : ∃ WW : World, WW = ((((w3.setCell ⟨w1.heap.size, 0, none⟩ (.int .i64 a0)).setCell ⟨w1.heap.size, 1, none⟩ (.int .i64 a1)).setCell ⟨w1.heap.size, 2, none⟩ (.bool a2)).setCell ⟨w1.heap.size, 3, none⟩ (.string a3)) := ⟨_, rfl⟩
  have t4 : Turn (fun i => i = w1.heap.size) w3 WS := by
    rw [hWS]
    exact set4_turn _ _ _ _ _ _
  have v4 : RowAt WS w1.heap.size 27 [.int .i64 a0, .int .i64 a1, .bool a2, .string a3] := by
    rw [hWS]
    exact set4_row V3.out _ _ _ _
  rw [← hWS]
  have hs1 : w1.heap.size ≤ w2.heap.size := hle2
  have R4 := Lib.hid (R3.out.turn t4 (fun e => hne1 e.symm))
  have Z4 := Lib.hid (Z3.out.turn t4 (fun e => Z3.out.ne V3.out (by decide) e))
  have HR4 := Lib.hid (HR3.out.turn t4 fun i hi e => by have := HR1.out.flt i hi; omega)
  have B4 := Lib.hid (B3.out.trans (t4.below (B := w.heap.size) B3.out.size fun i hi e => by have := B1.out.size; omega))
  have V4 := Lib.hid v4
  clear t4 v4 hWS
  refine (rafter_any G r M all k t WS HR4.out hM).mono ?_
  rintro e w5 ⟨he, b5⟩
  rw [← HO.out, EV2.out] at he
  subst he
  have V5 := Lib.hid (V4.out.below b5)
  have Z5 := Lib.hid (Z4.out.below b5)
  have B5 := Lib.hid (B4.out.trans (b5.mono B4.out.size))
  have zc' := Z5.out.cell
  have zf' := Z5.out.frozen
  have hne2 : w2.heap.size ≠ w1.heap.size := fun e => (Z5.out.ne V5.out (by decide)) e
  have k0 := V5.out.cell 0
  have k1 := V5.out.cell 1
  have k2 := V5.out.cell 2
  have k3 := V5.out.cell 3
  simp only [List.getElem?_cons_zero, List.getElem?_cons_succ] at k0 k1 k2 k3
  have hle5 : w.heap.size ≤ w2.heap.size := B2.out.size
  clear b5 vc' vf' r1' r2'
  go_wp2_with fail
  refine (like_any ⟨a0, a1, a2, a3⟩ ⟨yk, ⟨a0, a1, a2, a3⟩⟩ _).mono ?_
  rintro e w6 ⟨he, b6⟩
  rw [HLI.out] at he
  subst he
  have B6 := Lib.hid ((((((B5.out.setCell (p := ⟨w2.heap.size, 0, none⟩) hle5 _).setCell (p := ⟨w2.heap.size, 1, none⟩) hle5 _).setCell (p := ⟨w2.heap.size, 2, none⟩) hle5 _).setCell (p := ⟨w2.heap.size, 3, none⟩) hle5 _).setCell (p := ⟨w2.heap.size, 4, none⟩) hle5 _).trans (b6.mono (by simpa using B5.out.size)))
  clear b6
  go_wp2_with fail
  go_ret
  exact ⟨rfl, B6.out⟩

end Go.Proofs.Ytkbnfnfjmofcmaa
