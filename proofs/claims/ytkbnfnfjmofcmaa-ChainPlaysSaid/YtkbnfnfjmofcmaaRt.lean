/- step: chains and keys. -/
import Derived.Test.YtkbnfnfjmofcmaaRs
namespace Go.Proofs.Ytkbnfnfjmofcmaa
set_option linter.unusedVariables false
set_option linter.unusedSimpArgs false
open Go.RowKit

set_option maxRecDepth 100000 in
set_option maxHeartbeats 4000000 in
theorem step_chain (F G : Nat → Prop) (p r N M : Nat) (s : Store) (all : List RV) (t : Int) (k : ByteArray) (v : Ver) (w : World) (hS : SAt F w p s.1 N s.2) (hR : RAt G w r M all) (hsim : Sim s all) (hk : k.size ≤ maxLen) (hN : N < 3000000000000) (hM : M < 2300000000000) :
    Calls Try.prog 19 #[.pointer (some ⟨p, 0, none⟩), .pointer (some ⟨r, 0, none⟩), .agg #[.int .i64 4, .int .i64 t, .string k, .int .i64 v.commit, .int .i64 v.writer, .bool v.found, .string v.value]] w fun e w' => e = .returned (.bool true) ∧ Below w.heap.size w w' := by
  obtain ⟨vc, vw, vf, vv⟩ := v
  have hba := (Below.refl w.heap.size w).alloc (Nat.le_refl _) (.cells #[.int .i64 4, .int .i64 t, .string k, .int .i64 vc, .int .i64 vw, .bool vf, .string vv] 35)
  have rba := RowAt.new w 35 [.int .i64 4, .int .i64 t, .string k, .int .i64 vc, .int .i64 vw, .bool vf, .string vv]
  obtain ⟨W0, hW0⟩ : ∃ WW : World, WW = w.alloc (.cells #[.int .i64 4, .int .i64 t, .string k, .int .i64 vc, .int .i64 vw, .bool vf, .string vv] 35) := ⟨_, rfl⟩
  rw [show (Obj.cells (List.toArray [.int .i64 4, .int .i64 t, .string k, .int .i64 vc, .int .i64 vw, .bool vf, .string vv]) 35) = .cells #[.int .i64 4, .int .i64 t, .string k, .int .i64 vc, .int .i64 vw, .bool vf, .string vv] 35 from rfl, ← hW0] at rba
  rw [← hW0] at hba
  have HS := Lib.hid (hS.below hba)
  have HR := Lib.hid (hR.below hba)
  have HB := Lib.hid hba
  have RB := Lib.hid rba
  have HW0 := Lib.hid hW0
  have HSIM := Lib.hid hsim
  have HK := Lib.hid hk
  clear hba rba hS hR hsim hk hW0
  go_enter Try.func19, Try.ntmps19
  go_wp2_with fail
  rw [← HW0.out]
  have q1 := RB.out.cell 2
  simp only [List.getElem?_cons_zero, List.getElem?_cons_succ] at q1
  have q2 : W0.drew.cell? ⟨w.heap.size, 2, none⟩ = some (.string k) := q1
  have BD := Lib.hid (Below.refl W0.heap.size W0).drew
  go_region_held3 (fun w' => w'.cell? ⟨w.heap.size, 2, none⟩ = some (.string k))
    (first | exact q4 | exact q3 | exact q2 | exact q1)
    (first
      | (go_at_call 13; refine (chain_any F p s.1 N s.2 k _ (HS.out.below BD.out) HK.out hN).mono ?_; rintro e w2 ⟨v2, rfl, o2, b2⟩; have B2 := Lib.hid (BD.out.trans (b2.mono BD.out.size)); have O2 := Lib.hid o2; have q3 := (RB.out.below B2.out).cell 2; simp only [List.getElem?_cons_zero, List.getElem?_cons_succ] at q3; clear o2 b2)
      | (go_at_call 33; refine (rchain_any G r M all k _ (HR.out.below B2.out) hM).mono ?_; rintro e w3 ⟨v3, rfl, o3, b3⟩; have B3 := Lib.hid (B2.out.trans (b3.mono B2.out.size)); have O3 := Lib.hid o3; have O23 := Lib.hid (O2.out.below b3); have q4 := (RB.out.below B3.out).cell 2; simp only [List.getElem?_cons_zero, List.getElem?_cons_succ] at q4; clear o3 b3))
  obtain ⟨A2, c2, rfl⟩ := own_form O2.out
  obtain ⟨A3, c3, rfl⟩ := own_form O3.out
  obtain ⟨l, hl⟩ : ∃ l, l = chR all k := ⟨_, rfl⟩
  have hkey := HSIM.out.key k
  rw [← hl] at hkey O3 ⊢
  have hlen : (s.2 k).length = l.length := by rw [hkey, List.length_map]
  obtain ⟨n, hn⟩ : ∃ n, n = l.length := ⟨_, rfl⟩
  have hnb : n < 2300000000000 := by
    obtain ⟨A, cap, m1, m2, m3, m4, m5, m6⟩ := HR.out
    have := chR_le all k all.length
    rw [List.take_length, ← hl] at this
    omega
  rw [hlen, ← hn] at O23 ⊢
  rw [← hn] at O3
  have HN := Lib.hid hn
  have HKEY := Lib.hid hkey
  have O23' := Lib.hid (Own.mono O23.out (Nat.zero_le _))
  have hqq : ((n : Int) == (n : Int)) = true := by simp
  clear q1 q2 q3 q4 hlen hkey hl hn O2 O23
  go_wp2_with fail
  go_loopw [107] (fun i wr => ∃ j : Nat, i = .int .i64 j ∧ j ≤ n ∧ Hid (Below w3.heap.size w3 wr)) (fun i _ => n - (intOf i).toNat)
  case atStart => exact ⟨0, rfl, by omega, Below.refl _ _⟩
  case round =>
    obtain ⟨j, rfl, hj, HW⟩ := hrel
    by_cases hlt : j < n
    · have ho := VOwn.vers (Own.below O23'.out HW.out)
      obtain ⟨g, x, rfl, hx, c0, c1, c2', c3'⟩ := ho.cells (i := j) (by rw [HKEY.out, List.length_map, ← HN.out]; exact hlt)
      obtain ⟨g3, y, rfl, hy, y0, y1, y2, y3, y4⟩ := own_rv (Own.below O3.out HW.out) (i := j) (by rw [← HN.out]; exact hlt)
      have hxy : x = y.v := by
        rw [HKEY.out, List.getElem?_map, hy] at hx
        injection hx with hx
        exact hx.symm
      have HXY := Lib.hid hxy
      have HLI := Lib.hid (show Ver.eqb x y.v = true by rw [hxy]; exact (Ver.eqb_iff _ _).2 rfl)
      clear hxy hx ho
      have hba := (Below.refl wr.heap.size wr).alloc (Nat.le_refl _) (.cells #[.int .i64 x.commit, .int .i64 x.writer, .bool x.found, .string x.value] 27)
      have rba := RowAt.new wr 27 [.int .i64 x.commit, .int .i64 x.writer, .bool x.found, .string x.value]
      obtain ⟨W1, hW1⟩ : ∃ WW : World, WW = wr.alloc (.cells #[.int .i64 x.commit, .int .i64 x.writer, .bool x.found, .string x.value] 27) := ⟨_, rfl⟩
      rw [show (Obj.cells (List.toArray [.int .i64 x.commit, .int .i64 x.writer, .bool x.found, .string x.value]) 27) = .cells #[.int .i64 x.commit, .int .i64 x.writer, .bool x.found, .string x.value] 27 from rfl, ← hW1] at rba
      rw [← hW1] at hba
      have HW1 := Lib.hid hW1
      have HY := Lib.hid hy
      have hfx : ∀ w', Below W1.heap.size W1 w' → w'.cell? ⟨wr.heap.size, 0, none⟩ = some (.int .i64 x.commit) ∧ w'.cell? ⟨wr.heap.size, 1, none⟩ = some (.int .i64 x.writer) ∧ w'.cell? ⟨wr.heap.size, 2, none⟩ = some (.bool x.found) ∧ w'.cell? ⟨wr.heap.size, 3, none⟩ = some (.string x.value) ∧ w'.cell? ⟨g3, j * 5, none⟩ = some (.string y.key) ∧ w'.cell? ⟨g3, j * 5 + 1, none⟩ = some (.int .i64 y.v.commit) ∧ w'.cell? ⟨g3, j * 5 + 2, none⟩ = some (.int .i64 y.v.writer) ∧ w'.cell? ⟨g3, j * 5 + 3, none⟩ = some (.bool y.v.found) ∧ w'.cell? ⟨g3, j * 5 + 4, none⟩ = some (.string y.v.value) := by
        intro w' hb
        obtain ⟨g', x', e1, hx', z0, z1, z2, z3, z4⟩ := own_rv (Own.below (Own.below (Own.below O3.out HW.out) hba) hb) (i := j) (by rw [← HN.out]; exact hlt)
        obtain rfl : g3 = g' := by injection e1 with e1; injection e1
        obtain rfl : y = x' := by rw [HY.out] at hx'; injection hx'
        have rr := rba.below hb
        exact ⟨rr.cell 0, rr.cell 1, rr.cell 2, rr.cell 3, z0, z1, z2, z3, z4⟩
      have HFX := Lib.hid hfx
      have HB1 := Lib.hid (HW.out.trans (hba.mono HW.out.size))
      have R0 := Lib.hid (Below.refl W1.heap.size W1)
      have R1 := Lib.hid (Below.refl W1.heap.size W1).drew
      clear hfx hba rba hW1 hy
      go_wp2_with fail
      rw [← HW1.out]
      go_region_held3 (fun w' => w'.cell? ⟨wr.heap.size, 0, none⟩ = some (.int .i64 x.commit) ∧ w'.cell? ⟨wr.heap.size, 1, none⟩ = some (.int .i64 x.writer) ∧ w'.cell? ⟨wr.heap.size, 2, none⟩ = some (.bool x.found) ∧ w'.cell? ⟨wr.heap.size, 3, none⟩ = some (.string x.value) ∧ w'.cell? ⟨g3, j * 5, none⟩ = some (.string y.key) ∧ w'.cell? ⟨g3, j * 5 + 1, none⟩ = some (.int .i64 y.v.commit) ∧ w'.cell? ⟨g3, j * 5 + 2, none⟩ = some (.int .i64 y.v.writer) ∧ w'.cell? ⟨g3, j * 5 + 3, none⟩ = some (.bool y.v.found) ∧ w'.cell? ⟨g3, j * 5 + 4, none⟩ = some (.string y.v.value))
        (first | exact HFX.out _ R2.out | exact HFX.out _ R1.out | exact HFX.out _ R0.out)
        (first | (go_at_call 32; refine (like_any x y _).mono ?_; rintro e w4 ⟨he, b4⟩; rw [HLI.out] at he; subst he; have R2 := Lib.hid (R1.out.trans (b4.mono R1.out.size)); clear b4))
      go_wp2_with fail
      exact ⟨⟨j + 1, rfl, by omega, Lib.hid (HB1.out.trans (R2.out.mono HB1.out.size))⟩, by show n - ((j : Int) + 1).toNat < n - (j : Int).toNat; omega⟩
    · obtain rfl : j = n := by omega
      go_wp2_with fail
      go_ret
      exact ⟨rfl, HB.out.trans ((B3.out.trans (HW.out.mono B3.out.size)).mono HB.out.size)⟩
set_option maxRecDepth 100000 in
set_option maxHeartbeats 4000000 in
theorem step_keys (F G : Nat → Prop) (p r N M : Nat) (s : Store) (all : List RV) (t : Int) (k : ByteArray) (v : Ver) (w : World) (hS : SAt F w p s.1 N s.2) (hR : RAt G w r M all) (hsim : Sim s all) (hs : ∀ x ∈ all, x.key.size ≤ maxLen) (hN : N < 3000000000000) (hM : M < 2300000000000) :
    Calls Try.prog 19 #[.pointer (some ⟨p, 0, none⟩), .pointer (some ⟨r, 0, none⟩), .agg #[.int .i64 5, .int .i64 t, .string k, .int .i64 v.commit, .int .i64 v.writer, .bool v.found, .string v.value]] w fun e w' => e = .returned (.bool true) ∧ Below w.heap.size w w' := by
  obtain ⟨vc, vw, vf, vv⟩ := v
  have hba := (Below.refl w.heap.size w).alloc (Nat.le_refl _) (.cells #[.int .i64 5, .int .i64 t, .string k, .int .i64 vc, .int .i64 vw, .bool vf, .string vv] 35)
  obtain ⟨W0, hW0⟩ : ∃ WW : World, WW = w.alloc (.cells #[.int .i64 5, .int .i64 t, .string k, .int .i64 vc, .int .i64 vw, .bool vf, .string vv] 35) := ⟨_, rfl⟩
  rw [← hW0] at hba
  have HS := Lib.hid (hS.below hba)
  have HR := Lib.hid (hR.below hba)
  have HB := Lib.hid hba
  have HW0 := Lib.hid hW0
  have HSIM := Lib.hid hsim
  have HLE := Lib.hid hs
  clear hba hS hR hsim hs hW0
  go_enter Try.func19, Try.ntmps19
  go_wp2_with fail
  rw [← HW0.out]
  refine (keys_any F p s.1 N s.2 _ HS.out hN).mono ?_
  rintro e w1 ⟨v1, ks, rfl, k1, o1, b1, -, hkn⟩
  have K1 := Lib.hid k1
  have O1 := Lib.hid o1
  have B1 := Lib.hid b1
  clear k1 o1 b1
  go_wp2_with fail
  refine (rkeys_any G r M all _ (HR.out.below B1.out) hM HLE.out).mono ?_
  rintro e w2 ⟨v2, ks2, rfl, k2, o2, b2, -⟩
  obtain rfl := HSIM.out.keys K1.out k2
  obtain ⟨A1, c1, rfl⟩ := own_form O1.out
  obtain ⟨A2, c2, rfl⟩ := own_form o2
  obtain ⟨n, hn⟩ : ∃ n, n = ks.length := ⟨_, rfl⟩
  rw [← hn] at hkn o2 ⊢
  have HN := Lib.hid hn
  have hox := O1.out.below b2
  rw [← hn] at hox
  have O12 := Lib.hid hox
  have O2 := Lib.hid o2
  have B2 := Lib.hid (B1.out.trans (b2.mono B1.out.size))
  have S2 := Lib.hid (HS.out.below B2.out)
  have hqq : ((n : Int) == (n : Int)) = true := by simp
  obtain ⟨A, cap, m1, m2, m3, m4, m5, m6⟩ := HR.out.below B2.out
  obtain ⟨cn, hcn⟩ : ∃ c, c = all.length := ⟨_, rfl⟩
  have q0 := m1.cell 0
  simp only [List.getElem?_cons_zero, ← hcn] at q0
  have hcq : ((cn : Int) == (cn : Int)) = true := by simp
  have HCN := Lib.hid (HSIM.out.len.trans hcn.symm)
  clear m1 m2 m3 m4 hn hox o2 b2 k2 hcn
  go_wp2_with fail
  have S2D := Lib.hid (S2.out.below (Below.refl _ _).drew)
  have q1 : w2.drew.cell? ⟨r, 0, none⟩ = some (.slice A cn cap) := q0
  have BD := Lib.hid B2.out.drew
  go_region_held3 (fun w' => w'.cell? ⟨r, 0, none⟩ = some (.slice A cn cap))
    (first | exact q1 | exact q0)
    ((go_at_call 17; refine (count_any F p s.1 N s.2 _ S2D.out).mono ?_; rintro e w9 ⟨he, hw⟩; subst hw; rw [HCN.out] at he; subst he))
  go_wp2_with fail
  go_loopw [143] (fun i wr => ∃ j : Nat, i = .int .i64 j ∧ j ≤ n ∧ wr = w2.drew) (fun i _ => n - (intOf i).toNat)
  case atStart => exact ⟨0, rfl, by omega, rfl⟩
  case round =>
    obtain ⟨j, rfl, hj, rfl⟩ := hrel
    by_cases hlt : j < n
    · obtain ⟨g1, x, rfl, hx, -, c0⟩ := own_str O12.out.drawn (j := j) (by rw [← HN.out]; exact hlt)
      obtain ⟨g2, y, rfl, hy, -, d0⟩ := own_str O2.out.drawn (j := j) (by rw [← HN.out]; exact hlt)
      obtain rfl : x = y := by rw [hx] at hy; injection hy
      have hxx : (x.toList == x.toList) = true := by simp
      clear hx hy
      go_wp2_with fail
      exact ⟨⟨j + 1, rfl, by omega, by simp⟩, by show n - ((j : Int) + 1).toNat < n - (j : Int).toNat; omega⟩
    · obtain rfl : j = n := by omega
      go_wp2_with fail
      go_ret
      exact ⟨rfl, HB.out.trans (BD.out.mono HB.out.size)⟩

end Go.Proofs.Ytkbnfnfjmofcmaa
