/- refuse. -/
import Derived.Test.YtfodagidmdbmlaaM2
namespace Go.Proofs.Ytfodagidmdbmlaa
set_option linter.unusedVariables false
set_option linter.unusedSimpArgs false
open Go.RowKit

/-- What always holds of a machine. -/
structure MInv (M : Mach) : Prop where
  c0 : 0 ≤ M.clock
  c1 : M.clock ≤ 1099511627776
  cnt : M.all.length ≤ 4096
  n0 : M.sess.length ≤ 64
  ops : ∀ (i : Nat) (r : Run), M.all[i]? = some r → r.ops.length ≤ 16 ∧ r.times.length = r.ops.length
  keys : ∀ (i : Nat) (r : Run), M.all[i]? = some r → ∀ o ∈ r.ops, (1 ≤ o.key.size ∧ o.key.size ≤ 8) ∧ (o.kind ≠ 1 → o.value.size ≤ 16 ∧ (o.found = false → o.value.size = 0))
  inc : ∀ k, (M.st.2 k).Pairwise fun a b => a.commit < b.commit
  top : ∀ k, ∀ x ∈ M.st.2 k, x.commit ≤ M.clock
  now : ∀ (s j : Nat) (q : Int), M.sess[s]? = some (some j, q) → ∃ r, M.all[j]? = some r ∧ r.session = (s : Int)
theorem MInv.rise {M : Mach} (h : MInv M) (k : ByteArray) : Rising (M.st.2 k) := (h.inc k).imp fun h => Int.le_of_lt h
theorem form_zero {n : Nat} {s : MStep} (h : formF n s = 0) : (1 ≤ s.kind ∧ s.kind ≤ 6) ∧ (0 ≤ s.session ∧ s.session < n) ∧ (0 ≤ s.gap ∧ s.gap ≤ 1000) ∧ ((2 ≤ s.kind ∧ s.kind ≤ 4) → 1 ≤ s.key.size ∧ s.key.size ≤ 8) ∧ (s.kind = 3 → s.value.size ≤ 16) := by
  unfold formF at h
  by_cases h1 : s.kind < 1 ∨ 6 < s.kind
  · rw [if_pos h1] at h; cases h
  rw [if_neg h1] at h
  by_cases h2 : s.session < 0 ∨ (n : Int) ≤ s.session
  · rw [if_pos h2] at h; cases h
  rw [if_neg h2] at h
  by_cases h3 : s.gap < 0 ∨ 1000 < s.gap
  · rw [if_pos h3] at h; cases h
  rw [if_neg h3] at h
  by_cases h4 : (2 ≤ s.kind ∧ s.kind ≤ 4) ∧ (s.key.size < 1 ∨ 8 < s.key.size)
  · rw [if_pos h4] at h; cases h
  rw [if_neg h4] at h
  by_cases h5 : s.kind = 3 ∧ 16 < s.value.size
  · rw [if_pos h5] at h; cases h
  refine ⟨by omega, by omega, by omega, fun hh => ?_, fun hh => ?_⟩
  · omega
  · omega
theorem plAt_get {pl : List Pl} {i : Nat} {q : Pl} (h : pl[i]? = some q) : plAt pl i = q := by
  unfold plAt
  rw [List.getD_eq_getElem?_getD, h]
  rfl
theorem MachAt.place {w : World} {m : Nat} {M : Mach} {gs p : Nat} {lv : Value} {pl : List Pl} {Fs : Nat → Prop} {N : Nat} (h : MachAt w m M gs p lv pl Fs N) {j : Nat} {r : Run} (hr : M.all[j]? = some r) : pl[j]? = some (plAt pl j) ∧ AAt w r (plAt pl j) j := by
  have hlt : j < pl.length := by rw [h.len]; exact (List.getElem?_eq_some_iff.1 hr).1
  have e : pl[j]? = some pl[j] := List.getElem?_eq_getElem hlt
  rw [plAt_get e]
  exact ⟨e, h.act j r _ hr e⟩
set_option maxRecDepth 100000 in
set_option maxHeartbeats 4000000 in
theorem refuse_any (m : Nat) (M : Mach) (gs p : Nat) (lv : Value) (pl : List Pl) (Fs : Nat → Prop) (N : Nat) (s : MStep) (w : World) (h : MachAt w m M gs p lv pl Fs N) (hi : MInv M) (hk : s.key.size ≤ maxLen) (hv : s.value.size ≤ maxLen) :
    Calls Try.prog 32 #[.pointer (some ⟨m, 0, none⟩), .agg #[.int .i64 s.kind, .int .i64 s.session, .int .i64 s.gap, .string s.key, .string s.value]] w fun e w' => e = .returned (.int .i64 (refuseF M s)) ∧ Below w.heap.size w w' := by
  obtain ⟨kd, se, ga, ky, va⟩ := s
  have hba := (Below.refl w.heap.size w).alloc (Nat.le_refl _) (.cells #[.int .i64 kd, .int .i64 se, .int .i64 ga, .string ky, .string va] 29)
  have rba := RowAt.new w 29 [.int .i64 kd, .int .i64 se, .int .i64 ga, .string ky, .string va]
  have HA := Lib.hid (h.below hba)
  have d0 := rba.cell 0
  have d1 := rba.cell 1
  have d2 := rba.cell 2
  have d3 := rba.cell 3
  have d4 := rba.cell 4
  simp only [List.getElem?_cons_zero, List.getElem?_cons_succ] at d0 d1 d2 d3 d4
  have HB := Lib.hid hba
  have RB := Lib.hid rba
  have HI := Lib.hid hi
  obtain ⟨res, hres⟩ : ∃ z, z = refuseF M ⟨kd, se, ga, ky, va⟩ := ⟨_, rfl⟩
  rw [← hres]
  have HR := Lib.hid hres
  have HK := Lib.hid hk
  have HV := Lib.hid hv
  clear hba rba hres h hi hk hv
  have m3 := HA.out.row.cell 3
  simp only [rowM, List.getElem?_cons_zero, List.getElem?_cons_succ] at m3
  go_enter Try.func32, Try.ntmps32
  go_wp2_with fail
  refine (form_any m M.sess.length M.sess.length (some ⟨gs, 0, none⟩) ⟨kd, se, ga, ky, va⟩ _ m3 HK.out HV.out HA.out.row.lt).mono ?_
  rintro e w1 ⟨rfl, b1⟩
  obtain ⟨f, hf⟩ : ∃ z, z = formF M.sess.length ⟨kd, se, ga, ky, va⟩ := ⟨_, rfl⟩
  rw [← hf]
  have HF := Lib.hid hf
  have R1 := Lib.hid (RB.out.below b1)
  have B1 := Lib.hid (HB.out.trans (b1.mono HB.out.size))
  have A1 := Lib.hid (HA.out.below b1)
  clear hf b1 d0 d1 d2 d3 d4 m3
  by_cases h0 : f = 0
  · subst h0
    obtain ⟨k1, k2, k3, k4, k5⟩ := form_zero HF.out.symm
    simp only at k1 k2 k3 k4 k5
    obtain ⟨j, rfl⟩ : ∃ j : Nat, se = (j : Int) := ⟨se.toNat, by omega⟩
    have hjl : j < M.sess.length := by omega
    obtain ⟨⟨o, sq⟩, hx⟩ : ∃ x, M.sess[j]? = some x := ⟨_, List.getElem?_eq_getElem hjl⟩
    obtain ⟨x0, x1⟩ := A1.out.sess hx
    have hres : res = (if kd = 1 ∧ o ≠ none then 155 else if kd ≠ 1 ∧ o = none then 156 else if kd = 1 ∧ 4096 ≤ M.all.length then 71
        else if (2 ≤ kd ∧ kd ≤ 4) ∧ 16 ≤ (M.all.getD (o.getD 0) Run.zero).ops.length then 63 else if 1099511627776 < M.clock + 1 + ga then 154 else 0) := by
      rw [HR.out]
      unfold refuseF
      rw [if_neg (by rw [← HF.out]; simp)]
      show (let now := (M.sess.getD ((j : Int)).toNat (none, 0)).1; _) = _
      rw [Int.toNat_natCast, List.getD_eq_getElem?_getD, hx]
      rfl
    have HRES := Lib.hid hres
    obtain ⟨n, hn⟩ : ∃ n, n = M.sess.length := ⟨_, rfl⟩
    obtain ⟨al, hal⟩ : ∃ n, n = M.all.length := ⟨_, rfl⟩
    obtain ⟨clk, hclk⟩ : ∃ n, n = M.clock := ⟨_, rfl⟩
    have m1 := A1.out.row.cell 1
    have m2 := A1.out.row.cell 2
    have m3 := A1.out.row.cell 3
    simp only [rowM, List.getElem?_cons_zero, List.getElem?_cons_succ] at m1 m2 m3
    have d0 := R1.out.cell 0
    have d1 := R1.out.cell 1
    have d2 := R1.out.cell 2
    simp only [List.getElem?_cons_zero, List.getElem?_cons_succ] at d0 d1 d2
    have hc0 := HI.out.c0
    have hc1 := HI.out.c1
    have hcn := HI.out.cnt
    rw [← hn] at hjl m3 k2
    rw [← hal] at hres hcn m2
    rw [← hclk] at hres hc0 hc1 m1
    have hj0 : (0 : Int) ≤ (j : Int) := by omega
    have hj1 : (j : Int) < (n : Int) := by omega
    have hw1 : IntKind.i64.wrap (clk + 1) = clk + 1 := wrap_in (by omega) (by omega)
    have hw2 : IntKind.i64.wrap (clk + 1 + ga) = clk + 1 + ga := wrap_in (by omega) (by omega)
    have HN := Lib.hid hn
    have HAL := Lib.hid hal
    have HCL := Lib.hid hclk
    clear hn hal hclk hres
    have B2 := Lib.hid B1.out.drew
    have B3 := Lib.hid B1.out.drew.drew
    have e0 : w1.drew.cell? ⟨w.heap.size, 0, none⟩ = some (.int .i64 kd) := d0
    have e2 : w1.drew.cell? ⟨w.heap.size, 2, none⟩ = some (.int .i64 ga) := d2
    have e3 : w1.drew.cell? ⟨m, 1, none⟩ = some (.int .i64 clk) := m1
    have e4 : w1.drew.cell? ⟨m, 2, none⟩ = some (.int .i64 al) := m2
    cases o with
    | none =>
      simp only [Option.map_none] at x0
      have t1 : ¬ (kd = 1 ∧ (none : Option Nat) ≠ none) := fun h => h.2 rfl
      rw [if_neg t1] at HRES
      by_cases q1 : kd = 1
      · subst q1
        have t2 : ¬ ((1 : Int) ≠ 1 ∧ (none : Option Nat) = none) := fun h => h.1 rfl
        rw [if_neg t2] at HRES
        by_cases q2 : 4096 ≤ M.all.length
        · rw [if_pos ⟨rfl, q2⟩] at HRES
          have hq : decide ((al : Int) ≥ 4096) = true := decide_eq_true (by rw [HAL.out]; omega)
          go_wp2_with fail
          all_goals go_region
          all_goals go_wp2_with fail
          all_goals first | (go_ret; exact ⟨by rw [HRES.out]; rfl, B2.out⟩) | (exfalso; omega)
        · rw [if_neg (fun h => q2 h.2), if_neg (by omega)] at HRES
          have hq : decide ((al : Int) ≥ 4096) = false := decide_eq_false (by rw [HAL.out]; omega)
          have hq2 : ¬ (4096 ≤ (al : Int)) := by rw [HAL.out]; omega
          by_cases q3 : 1099511627776 < clk + 1 + ga
          · rw [if_pos (by rw [← HCL.out]; exact q3)] at HRES
            have hq3 : decide (1099511627776 < clk + 1 + ga) = true := decide_eq_true q3
            go_wp2_with fail
            all_goals go_region
            all_goals go_wp2_with fail
            all_goals go_region
            all_goals go_wp2_with fail
            all_goals first | (go_ret; exact ⟨by rw [HRES.out]; rfl, B3.out⟩) | (exfalso; omega)
          · rw [if_neg (by rw [← HCL.out]; exact q3)] at HRES
            have hq3 : decide (1099511627776 < clk + 1 + ga) = false := decide_eq_false q3
            go_wp2_with fail
            all_goals go_region
            all_goals go_wp2_with fail
            all_goals go_region
            all_goals go_wp2_with fail
            all_goals first | (go_ret; exact ⟨by rw [HRES.out]; rfl, B3.out⟩) | (exfalso; omega)
      · rw [if_pos ⟨q1, rfl⟩] at HRES
        have hq : (kd == 1) = false := by simpa using q1
        go_wp2_with fail
        all_goals go_region
        all_goals go_wp2_with fail
        all_goals first | (go_ret; exact ⟨by rw [HRES.out]; rfl, B2.out⟩) | (exfalso; omega)
    | some i =>
      have NW := Lib.hid (HI.out.now j i sq hx)
      obtain ⟨r, hr, -⟩ := NW.out
      obtain ⟨pq, pa⟩ := A1.out.place hr
      obtain ⟨L, hL⟩ : ∃ n, n = r.ops.length := ⟨_, rfl⟩
      obtain ⟨A, c, hA⟩ := own_forms pa.ops
      rw [← hL] at hA
      have b7 := pa.row.cell 7
      simp only [actC, List.getElem?_cons_zero, List.getElem?_cons_succ] at b7
      rw [hA] at b7
      have e7 : w1.drew.cell? ⟨(plAt pl i).b, 7, none⟩ = some (.slice A L c) := b7
      simp only [Option.map_some] at x0
      have hgo : (M.all.getD ((some i).getD 0) Run.zero).ops.length = L := by
        rw [Option.getD_some, List.getD_eq_getElem?_getD, hr, hL]
        rfl
      rw [hgo] at HRES
      obtain ⟨bb, hbb⟩ : ∃ n, n = (plAt pl i).b := ⟨_, rfl⟩
      rw [← hbb] at x0 b7 e7
      clear pq pa hL hA hgo NW hr hbb
      by_cases q1 : kd = 1
      · subst q1
        rw [if_pos ⟨rfl, by simp⟩] at HRES
        go_wp2_with fail
        all_goals go_region
        all_goals go_wp2_with fail
        all_goals first | (go_ret; exact ⟨by rw [HRES.out]; rfl, B2.out⟩) | (exfalso; omega)
      · have hq : (kd == 1) = false := by simpa using q1
        have t1 : ¬ (kd = 1 ∧ some i ≠ none) := fun h => q1 h.1
        have t2 : ¬ (kd ≠ 1 ∧ some i = none) := fun h => by cases h.2
        have t3 : ¬ (kd = 1 ∧ 4096 ≤ M.all.length) := fun h => q1 h.1
        rw [if_neg t1, if_neg t2, if_neg t3] at HRES
        by_cases q2 : 2 ≤ kd ∧ kd ≤ 4
        · have u1 : decide (kd ≥ 2) = true := decide_eq_true (by omega)
          have u2 : decide (kd ≤ 4) = true := decide_eq_true (by omega)
          have u3 : ¬ kd < 2 := by omega
          have u4 : ¬ 4 < kd := by omega
          by_cases q3 : 16 ≤ L
          · rw [if_pos ⟨q2, q3⟩] at HRES
            have hq2 : decide ((L : Int) ≥ 16) = true := decide_eq_true (by omega)
            have hq4 : 16 ≤ (L : Int) := by omega
            go_wp2_with fail
            all_goals go_region
            all_goals go_wp2_with fail
            all_goals first | (go_ret; exact ⟨by rw [HRES.out]; rfl, B2.out⟩) | (exfalso; omega)
          · rw [if_neg (fun h => q3 h.2)] at HRES
            have hq2 : decide ((L : Int) ≥ 16) = false := decide_eq_false (by omega)
            have hq4 : ¬ 16 ≤ (L : Int) := by omega
            by_cases q5 : 1099511627776 < clk + 1 + ga
            · rw [if_pos (by rw [← HCL.out]; exact q5)] at HRES
              have hq3 : decide (1099511627776 < clk + 1 + ga) = true := decide_eq_true q5
              go_wp2_with fail
              all_goals go_region
              all_goals go_wp2_with fail
              all_goals go_region
              all_goals go_wp2_with fail
              all_goals first | (go_ret; exact ⟨by rw [HRES.out]; rfl, B3.out⟩) | (exfalso; omega)
            · rw [if_neg (by rw [← HCL.out]; exact q5)] at HRES
              have hq3 : decide (1099511627776 < clk + 1 + ga) = false := decide_eq_false q5
              go_wp2_with fail
              all_goals go_region
              all_goals go_wp2_with fail
              all_goals go_region
              all_goals go_wp2_with fail
              all_goals first | (go_ret; exact ⟨by rw [HRES.out]; rfl, B3.out⟩) | (exfalso; omega)
        · have u2 : decide (kd ≤ 4) = false := decide_eq_false (by omega)
          have u3 : ¬ kd < 2 := by omega
          have u4 : 4 < kd := by omega
          rw [if_neg (fun h => q2 h.1)] at HRES
          by_cases q5 : 1099511627776 < clk + 1 + ga
          · rw [if_pos (by rw [← HCL.out]; exact q5)] at HRES
            have hq3 : decide (1099511627776 < clk + 1 + ga) = true := decide_eq_true q5
            go_wp2_with fail
            all_goals go_region
            all_goals go_wp2_with fail
            all_goals go_region
            all_goals go_wp2_with fail
            all_goals first | (go_ret; exact ⟨by rw [HRES.out]; rfl, B3.out⟩) | (exfalso; omega)
          · rw [if_neg (by rw [← HCL.out]; exact q5)] at HRES
            have hq3 : decide (1099511627776 < clk + 1 + ga) = false := decide_eq_false q5
            go_wp2_with fail
            all_goals go_region
            all_goals go_wp2_with fail
            all_goals go_region
            all_goals go_wp2_with fail
            all_goals first | (go_ret; exact ⟨by rw [HRES.out]; rfl, B3.out⟩) | (exfalso; omega)
  · have hres : res = f := by
      rw [HR.out]
      unfold refuseF
      rw [if_pos (by rw [← HF.out]; exact h0), ← HF.out]
    subst hres
    have h1 : (res == 0) = false := by simpa using h0
    clear HR HF
    go_wp2_with fail
    go_ret
    exact ⟨rfl, B1.out⟩

end Go.Proofs.Ytfodagidmdbmlaa
