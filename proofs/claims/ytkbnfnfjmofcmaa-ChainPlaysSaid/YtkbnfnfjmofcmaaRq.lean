/- step: At and After. -/
import Derived.Test.YtkbnfnfjmofcmaaRz
namespace Go.Proofs.Ytkbnfnfjmofcmaa
set_option linter.unusedVariables false
set_option linter.unusedSimpArgs false
open Go.RowKit

theorem map_some {o : Option RV} {a : Option Ver} (h : o.map RV.v = a) : o.isSome = a.isSome ∧ (o.getD RV.zero).v = a.getD Ver.zero := by
  subst h
  cases o <;> exact ⟨rfl, rfl⟩
set_option maxRecDepth 100000 in
set_option maxHeartbeats 4000000 in
theorem step_at (F G : Nat → Prop) (p r N M : Nat) (s : Store) (all : List RV) (t : Int) (k : ByteArray) (v : Ver) (w : World) (hS : SAt F w p s.1 N s.2) (hR : RAt G w r M all) (hsim : Sim s all) (hk : k.size ≤ maxLen) (hN : N < 3000000000000) (hM : M < 2300000000000) :
    Calls Try.prog 19 #[.pointer (some ⟨p, 0, none⟩), .pointer (some ⟨r, 0, none⟩), .agg #[.int .i64 2, .int .i64 t, .string k, .int .i64 v.commit, .int .i64 v.writer, .bool v.found, .string v.value]] w fun e w' => e = .returned (.bool true) ∧ Below w.heap.size w w' := by
  obtain ⟨vc, vw, vf, vv⟩ := v
  have hba := (Below.refl w.heap.size w).alloc (Nat.le_refl _) (.cells #[.int .i64 2, .int .i64 t, .string k, .int .i64 vc, .int .i64 vw, .bool vf, .string vv] 35)
  have rba := RowAt.new w 35 [.int .i64 2, .int .i64 t, .string k, .int .i64 vc, .int .i64 vw, .bool vf, .string vv]
  obtain ⟨W0, hW0⟩ : ∃ WW : World, WW = w.alloc (.cells #[.int .i64 2, .int .i64 t, .string k, .int .i64 vc, .int .i64 vw, .bool vf, .string vv] 35) := ⟨_, rfl⟩
  rw [show (Obj.cells (List.toArray [.int .i64 2, .int .i64 t, .string k, .int .i64 vc, .int .i64 vw, .bool vf, .string vv]) 35) = .cells #[.int .i64 2, .int .i64 t, .string k, .int .i64 vc, .int .i64 vw, .bool vf, .string vv] 35 from rfl, ← hW0] at rba
  rw [← hW0] at hba
  have HS := Lib.hid (hS.below hba)
  have HR := Lib.hid (hR.below hba)
  have HB := Lib.hid hba
  have RB := Lib.hid rba
  have HW0 := Lib.hid hW0
  have HK := Lib.hid hk
  have HI := Lib.hid (hsim.good.inc k)
  obtain ⟨hm1, hm2⟩ := map_some (hsim.at k t)
  obtain ⟨ao, hao⟩ : ∃ o, o = atV (s.2 k) t := ⟨_, rfl⟩
  obtain ⟨o, ho⟩ : ∃ o, o = bestF (atP k t) aboveB all := ⟨_, rfl⟩
  rw [← hao, ← ho] at hm1 hm2
  have HAO := Lib.hid hao
  have HO := Lib.hid ho
  obtain ⟨ob, hob⟩ : ∃ z, z = ao.isSome := ⟨_, rfl⟩
  obtain ⟨⟨a0, a1, a2, a3⟩, hav⟩ : ∃ z, z = ao.getD Ver.zero := ⟨_, rfl⟩
  obtain ⟨⟨yk, yv⟩, hy⟩ : ∃ z, z = o.getD RV.zero := ⟨_, rfl⟩
  rw [← hob] at hm1
  rw [← hav, ← hy] at hm2
  simp only at hm2
  subst hm2
  have EV1 := Lib.hid (show seen ao = .tuple #[.agg #[.int .i64 a0, .int .i64 a1, .bool a2, .string a3], .bool ob] by unfold seen; rw [← hav, ← hob]; rfl)
  have EV2 := Lib.hid (show rseen o = .tuple #[.agg #[.string yk, .int .i64 a0, .int .i64 a1, .bool a2, .string a3], .bool ob] by unfold rseen; rw [← hy, hm1]; rfl)
  have HLI := Lib.hid ((Ver.eqb_iff ⟨a0, a1, a2, a3⟩ ⟨a0, a1, a2, a3⟩).2 rfl)
  have hqq : (ob == ob) = true := by simp
  clear hba rba hS hR hsim hk hW0 hao ho hob hav hy hm1
  go_enter Try.func19, Try.ntmps19
  go_wp2_with fail
  rw [← HW0.out]
  refine (at_any F p s.1 N s.2 k t _ HS.out HK.out hN HI.out.rising).mono ?_
  rintro e w1 ⟨he, b1⟩
  rw [← HAO.out, EV1.out] at he
  subst he
  have r1 := RB.out.below b1
  have c0 := r1.cell 0
  have c1 := r1.cell 1
  have c2 := r1.cell 2
  simp only [List.getElem?_cons_zero, List.getElem?_cons_succ] at c0 c1 c2
  have R1 := Lib.hid r1
  have B1 := Lib.hid (HB.out.trans (b1.mono HB.out.size))
  have HR1 := Lib.hid (HR.out.below b1)
  have h0 : ∀ o, (w1.alloc o).cell? ⟨w.heap.size, 0, none⟩ = some (.int .i64 2) := fun o => (R1.out.alloc o).cell 0
  have h1 : ∀ o, (w1.alloc o).cell? ⟨w.heap.size, 1, none⟩ = some (.int .i64 t) := fun o => (R1.out.alloc o).cell 1
  have h2 : ∀ o, (w1.alloc o).cell? ⟨w.heap.size, 2, none⟩ = some (.string k) := fun o => (R1.out.alloc o).cell 2
  clear r1 b1
  go_wp2_with fail
  have hbb := (Below.refl w1.heap.size w1).alloc (Nat.le_refl _) (.cells #[.int .i64 a0, .int .i64 a1, .bool a2, .string a3] 27)
  have rbb := RowAt.new w1 27 [.int .i64 a0, .int .i64 a1, .bool a2, .string a3]
  refine (rat_any G r M all k t _ (HR1.out.below hbb) hM).mono ?_
  rintro e w2 ⟨he, b2⟩
  rw [← HO.out, EV2.out] at he
  subst he
  have V2 := Lib.hid (rbb.below b2)
  have R2 := Lib.hid ((R1.out.below hbb).below b2)
  have B2 := Lib.hid (B1.out.trans ((hbb.trans (b2.mono hbb.size)).mono B1.out.size))
  have d0 := R2.out.cell 0
  have d1 := V2.out.cell
  have h5 : ∀ o, (w2.alloc o).cell? ⟨w.heap.size, 0, none⟩ = some (.int .i64 2) := fun o => (R2.out.alloc o).cell 0
  have k0 : ∀ o, (w2.alloc o).cell? ⟨w1.heap.size, 0, none⟩ = some (.int .i64 a0) := fun o => (V2.out.alloc o).cell 0
  have k1 : ∀ o, (w2.alloc o).cell? ⟨w1.heap.size, 1, none⟩ = some (.int .i64 a1) := fun o => (V2.out.alloc o).cell 1
  have k2 : ∀ o, (w2.alloc o).cell? ⟨w1.heap.size, 2, none⟩ = some (.bool a2) := fun o => (V2.out.alloc o).cell 2
  have k3 : ∀ o, (w2.alloc o).cell? ⟨w1.heap.size, 3, none⟩ = some (.string a3) := fun o => (V2.out.alloc o).cell 3
  have BZ := Lib.hid (B2.out.alloc B2.out.size (.cells #[.string yk, .int .i64 a0, .int .i64 a1, .bool a2, .string a3] 54))
  clear hbb rbb b2 c0 c1 c2 h0 h1 h2 d0 d1
  go_wp2_with fail
  refine (like_any ⟨a0, a1, a2, a3⟩ ⟨yk, ⟨a0, a1, a2, a3⟩⟩ _).mono ?_
  rintro e w3 ⟨he, b3⟩
  rw [HLI.out] at he
  subst he
  have B3 := Lib.hid (BZ.out.trans (b3.mono BZ.out.size))
  clear b3
  go_wp2_with fail
  go_ret
  exact ⟨rfl, B3.out⟩

end Go.Proofs.Ytkbnfnfjmofcmaa
