/- Answers are memory of their own: what the check of the memory's law does. -/
import Derived.Test.YtfodagidmdbmlaaNP
namespace Go.Proofs.Ytfodagidmdbmlaa
set_option linter.unusedVariables false
set_option linter.unusedSimpArgs false
open Go.RowKit
attribute [local go_sem high] eqSt

theorem LogIn.at {S : Nat → Prop} {w : World} {A : Option Addr} {n c : Nat} {rs : List Run} {ovs : List Value} (h : LogIn S w (.slice A n c) rs ovs) {i : Nat} (hi : i < rs.length) :
    ∃ g r A1 c1, A = some ⟨g, 0, none⟩ ∧ rs[i]? = some r ∧ ovs[i]? = some (.slice A1 r.ops.length c1) ∧ w.cell? ⟨g, i * 8 + 7, none⟩ = some (.slice A1 r.ops.length c1) ∧ Own w 0 67 4 MOp.cells (.slice A1 r.ops.length c1) r.ops := by
  obtain ⟨g, ⟨r, ov⟩, rfl, hx, hc⟩ := own_log h.log.row (i := i) (by rw [List.length_zip, h.log.len, Nat.min_self]; exact hi)
  obtain ⟨h1, h2⟩ := List.getElem?_zip_eq_some.1 hx
  have h3 := h.log.ops i ov r h2 h1
  obtain ⟨A1, c1, rfl⟩ := own_forms h3
  exact ⟨g, r, A1, c1, rfl, h1, h2, hc 7 (by omega), h3⟩
theorem row_bound {i n c : Nat} (h : i < n) (hc : n ≤ c) (hm : c ≤ maxLen) : n ≤ 9223372036854775807 := by unfold maxLen at hm; omega
def mk (k : Int) : MOp := ⟨k, ⟨#[]⟩, false, ⟨#[]⟩⟩
set_option maxRecDepth 100000 in
set_option maxHeartbeats 8000000 in
theorem memory_walk (A : Option Addr) (n cap : Nat) (xs : List MStep) (w : World) (hn : xs.length = n) (hm : n < 2513169434900) (hz : A = none → cap = 0) (hx : ∀ o ∈ xs, o.Fits) (h : SliceRd w A 5 MStep.cells xs) :
    Calls Try.prog 11 #[.slice A n cap] w fun e w' => e = .returned (.bool true) ∧ Below w.heap.size w w' := by
  have HX := Lib.hid hx
  have HN := Lib.hid hn
  have HR := Lib.hid h
  have HZ := Lib.hid hz
  clear hx hn h hz
  go_enter Try.func11, Try.ntmps11
  go_wp2_with fail
  refine (anchor_any w).mono ?_
  rintro e w0 ⟨rfl, b1⟩
  have B0 := Lib.hid b1
  clear b1
  go_wp2_with fail
  refine (played_any A n cap xs w0 HN.out (by omega) HX.out (HR.out.below B0.out)).mono ?_
  rintro e w1 ⟨m, rfl, h1, b1⟩
  have PL := Lib.hid (playF_ok xs (machN_ok (n := 4) (by omega) 0))
  obtain ⟨M0, hM0⟩ : ∃ z, z = playF (machN 4 0) xs := ⟨_, rfl⟩
  rw [← hM0] at h1 PL
  have HM0 := Lib.hid hM0
  have H1 := Lib.hid h1
  have B1 := Lib.hid (B0.out.trans (b1.mono B0.out.size))
  clear h1 b1 hM0
  have hrd := SliceRd.read (cap := cap) ((HR.out.below B1.out).below ((Below.refl w1.heap.size w1).alloc (Nat.le_refl _) (.cells #[] 29))) MStep.len HZ.out
  rw [HN.out] at hrd
  have HRD := Lib.hid hrd
  have HO := Lib.hid (own_none_s w1)
  have HSL := Lib.hid (show ([] : List MStep).length + xs.length ≤ maxLen ∧ (([] : List MStep).length + xs.length) * 56 ≤ 140737488355328 by rw [HN.out]; unfold maxLen; simp; omega)
  clear hrd
  go_wp2_with (at_builtin; refine cat_list MStep.cells 29 22 22 29 (.agg #[.int .i64 0, .int .i64 0, .int .i64 0, .string ⟨#[]⟩, .string ⟨#[]⟩]) 5 56 Try.underlying22 Try.underlying22 (by kernel_rfl) rfl (by decide) MStep.len step_one _ _ (by rfl) (by rfl) w1.heap.size (.slice (some ⟨w1.heap.size, 0, none⟩) 0 0) [] xs (by rfl) HO.out (.slice A n cap) (by rfl) HRD.out HSL.out.1 HSL.out.2 (by simp) ?_)
  intro v2 w2 o2 g2 l2
  obtain ⟨A2, c2, rfl⟩ := own_forms o2
  rw [HN.out] at o2 ⊢
  have b12 := (((Below.refl w1.heap.size w1).alloc (Nat.le_refl _) (.cells #[] 29)).grown g2 (by simp) fun q hq => by
    have : w1.heap.size = q := by simpa [Value.ownBlock] using hq
    omega)
  have H2 := Lib.hid (H1.out.below b12)
  have B2 := Lib.hid (B1.out.trans (b12.mono B1.out.size))
  have R2 := Lib.hid (Own.rd o2 MStep.len)
  have L2 := Lib.hid (fun q hq => (Own.base o2 q hq).2)
  clear o2 g2 l2 b12
  obtain ⟨F, hF1, hF2⟩ := H2.out
  have HFL := Lib.hid (fun q (hq : F q) => (⟨hF2 q hq, hF1.lt q hq⟩ : w0.heap.size ≤ q ∧ q < w2.heap.size))
  have HF2 := Lib.hid hF1
  have S2 := Lib.hid B2.out.size
  have hna4 : (runsOf M0).length ≤ 4096 := by
    unfold runsOf
    rw [List.length_map]
    exact Nat.le_trans PL.out.ends PL.out.inv.cnt
  clear hF1 hF2 H1
  go_wp2_with fail
  refine (log_mb w0.heap.size m M0 w2 H2.out).mono ?_
  rintro e w3 ⟨v3, oa, rfl, l3, b3⟩
  have hlz : ∀ (ovs : List Value), ovs.length = (runsOf M0).length → ((runsOf M0).zip ovs).length = (runsOf M0).length := fun ovs e => by rw [List.length_zip, e, Nat.min_self]
  obtain ⟨na, hna⟩ : ∃ z, z = (runsOf M0).length := ⟨_, rfl⟩
  obtain ⟨A3, c3, rfl⟩ := own_forms l3.row
  rw [hlz _ l3.len, ← hna] at l3 ⊢
  rw [← hna] at hna4
  have HNA := Lib.hid hna
  have LA := Lib.hid l3.inn
  have H3 := Lib.hid (H2.out.below b3)
  have HF3 := Lib.hid (HF2.out.below b3)
  have B3 := Lib.hid (B2.out.trans (b3.mono B2.out.size))
  have R3 := Lib.hid (R2.out.below b3)
  have S3 := Lib.hid b3.size
  clear l3 b3
  go_wp2_with fail
  refine (log_mb w0.heap.size m M0 w3 H3.out).mono ?_
  rintro e w4 ⟨v4, ob, rfl, l4, b4⟩
  obtain ⟨A4, c4, rfl⟩ := own_forms l4.row
  rw [hlz _ l4.len, ← hna] at l4 ⊢
  have LA4 := Lib.hid (LA.out.below b4)
  have LB := Lib.hid l4.inn
  have H4 := Lib.hid (H3.out.below b4)
  have HF4 := Lib.hid (HF3.out.below b4)
  have B4 := Lib.hid (B3.out.trans (b4.mono B3.out.size))
  have R4 := Lib.hid (R3.out.below b4)
  have S4 := Lib.hid b4.size
  clear l4 b4 hlz hna
  go_wp2_with fail
  refine (emit_any 4 0 A2 n c2 xs w4 (by rfl) HN.out (by omega) HX.out R4.out).mono ?_
  rintro e w5 ⟨v5, oc, rfl, l5, b5⟩
  obtain ⟨A5, c5, rfl⟩ := own_forms l5.row
  obtain ⟨rc, hrc⟩ : ∃ z, z = runsOf (emitM 4 0 xs) := ⟨_, rfl⟩
  rw [← hrc] at l5
  have hzc : (rc.zip oc).length = rc.length := by rw [List.length_zip, l5.len, Nat.min_self]
  rw [← hrc, hzc]
  rw [hzc] at l5
  obtain ⟨nc, hnc⟩ : ∃ z, z = rc.length := ⟨_, rfl⟩
  rw [← hnc] at l5 ⊢
  have HRC := Lib.hid hrc
  have HNC := Lib.hid hnc
  have LA5 := Lib.hid (LA4.out.below b5)
  have LB5 := Lib.hid (LB.out.below b5)
  have LC := Lib.hid l5.inn
  have hnc4 : nc ≤ maxLen := by
    have := Own.big l5.row
    omega
  have HF5 := Lib.hid (HF4.out.below b5)
  have B5 := Lib.hid (B4.out.trans (b5.mono B4.out.size))
  have R5 := Lib.hid (R4.out.below b5)
  have S5 := Lib.hid b5.size
  clear l5 b5 hzc hrc hnc LA LA4 LB H2 H3 H4 HF2 HF3 HF4 R2 R3 R4 B0 B1 B2 B3 B4
  go_wp2_with fail
  refine (same_list (runsOf M0) oa ob na A3 A4 c3 c4 w5 HNA.out.symm (by omega) (runs_ops PL.out) LA5.out.log.rd LB5.out.log.rd).mono ?_
  rintro e w6 ⟨rfl, b6⟩
  have LA6 := Lib.hid (LA5.out.below b6)
  have LB6 := Lib.hid (LB5.out.below b6)
  have LC6 := Lib.hid (LC.out.below b6)
  have HF6 := Lib.hid (HF5.out.below b6)
  have B6 := Lib.hid (B5.out.trans (b6.mono B5.out.size))
  have R6 := Lib.hid (R5.out.below b6)
  have S6 := Lib.hid b6.size
  clear b6 LA5 LB5 LC HF5 B5 R5
  go_wp2_with fail
  obtain ⟨h2, hh2⟩ : ∃ z, z = w2.heap.size := ⟨_, rfl⟩
  obtain ⟨h3, hh3⟩ : ∃ z, z = w3.heap.size := ⟨_, rfl⟩
  obtain ⟨h4, hh4⟩ : ∃ z, z = w4.heap.size := ⟨_, rfl⟩
  obtain ⟨h5, hh5⟩ : ∃ z, z = w5.heap.size := ⟨_, rfl⟩
  rw [← hh2] at S2 S3 LA6 HFL L2
  rw [← hh3] at S3 S4 LA6 LB6
  rw [← hh4] at S4 S5 LB6 LC6
  rw [← hh5] at S5 S6 LC6
  go_loopw [45] (fun ix wr => ∃ i : Nat, i ≤ n ∧ ix = .int .i64 i ∧ Hid (Below w6.heap.size w6 wr)) (fun ix _ => n - (intOf ix).toNat)
  case atStart => exact ⟨0, by omega, rfl, Lib.hid (Below.refl _ _)⟩
  case round =>
    obtain ⟨i, hi, rfl, HB⟩ := hrel
    by_cases hlt : i < n
    · obtain ⟨x, hx⟩ : ∃ x, xs[i]? = some x := ⟨_, List.getElem?_eq_getElem (by rw [HN.out]; exact hlt)⟩
      obtain ⟨b, off, rfl, hb, hc⟩ := (R6.out.below HB.out).at hx
      obtain ⟨b', off', rfl, hb', hc'⟩ := (HR.out.below (B6.out.trans (HB.out.mono B6.out.size))).at hx
      obtain ⟨x0, x1, x2, x3, x4⟩ := x
      have k0 := hc 0 (by omega)
      have k1 := hc 1 (by omega)
      have k2 := hc 2 (by omega)
      have k3 := hc 3 (by omega)
      have k4 := hc 4 (by omega)
      have q0 := hc' 0 (by omega)
      have q1 := hc' 1 (by omega)
      have q2 := hc' 2 (by omega)
      have q3 := hc' 3 (by omega)
      have q4 := hc' 4 (by omega)
      simp only [MStep.cells, List.getElem?_cons_zero, List.getElem?_cons_succ, Nat.add_zero] at k0 k1 k2 k3 k4 q0 q1 q2 q3 q4
      have hi0 : (0 : Int) ≤ (i : Int) := by omega
      have hi1 : (i : Int) < (n : Int) := by omega
      have hself := stEq_self ⟨x0, x1, x2, x3, x4⟩
      clear hc hc' hx
      go_wp2_with fail
      go_region
      go_wp2_with fail
      exact ⟨⟨i + 1, by omega, rfl, Lib.hid HB.out.drew⟩, by show n - ((i : Int) + 1).toNat < n - (i : Int).toNat; omega⟩
    · obtain rfl : n = i := by omega
      clear hi hlt
      obtain ⟨Sa, hSa⟩ : ∃ S : Nat → Prop, S = fun q => (h2 ≤ q ∧ q < h3) ∨ h5 ≤ q := ⟨_, rfl⟩
      have HSA := Lib.hid (fun q => (by rw [hSa] : Sa q ↔ ((h2 ≤ q ∧ q < h3) ∨ h5 ≤ q)))
      clear hSa
      have BW := Lib.hid (B6.out.trans (HB.out.mono B6.out.size))
      have RW := Lib.hid (R6.out.below HB.out)
      have LAW := Lib.hid ((LA6.out.below HB.out).mono fun q hq => (HSA.out q).2 (.inl hq))
      have LBW := Lib.hid (LB6.out.below HB.out)
      have LCW := Lib.hid (LC6.out.below HB.out)
      have HFW := Lib.hid (HF6.out.below HB.out)
      have SW := Lib.hid (Nat.le_trans S6.out HB.out.size)
      clear B6 R6 LA6 LB6 LC6 HF6 S6 HB
      obtain ⟨W6, hW6⟩ : ∃ z, z = wr := ⟨_, rfl⟩
      subst hW6
      go_wp2_with fail
      go_loopw [60] (fun ix wq => ∃ (i : Nat) (rs' : List Run) (ovs' : List Value), i ≤ na ∧ ix = .int .i64 i ∧ rs'.length = na ∧ Hid (∀ (t : Nat) (r : Run), i ≤ t → rs'[t]? = some r → r.ops.length ≤ 16) ∧ Hid (LogIn Sa wq (.slice A3 na c3) rs' ovs') ∧ Hid (Turn Sa W6 wq)) (fun ix _ => na - (intOf ix).toNat)
      case atStart => exact ⟨0, _, _, by omega, rfl, HNA.out.symm, Lib.hid fun t r _ hr => runs_ops PL.out r (List.mem_of_getElem? hr), LAW, Lib.hid (Turn.refl _ _)⟩
      case round =>
        clear LAW
        obtain ⟨i, rs', ovs', hi, rfl, hl, HO, HL, HT⟩ := hrel
        by_cases hlt : i < na
        · obtain ⟨g, r, A1, c1, rfl, hr, hov, hc7, hown⟩ := HL.out.at (i := i) (by omega)
          have hr16 := HO.out i r (Nat.le_refl _) hr
          obtain ⟨nl, hnl⟩ : ∃ z, z = r.ops.length := ⟨_, rfl⟩
          rw [← hnl] at hov hc7 hown hr16
          have HNL := Lib.hid hnl.symm
          have HOV := Lib.hid hov
          have HL0 := Lib.hid hl
          have HR0 := Lib.hid hr
          have hi0 : (0 : Int) ≤ (i : Int) := by omega
          have hi1 : (i : Int) < (na : Int) := by omega
          clear hnl hov hl hr hown
          go_wp2_with fail
          clear hc7
          go_loopw [69] (fun jx wz => ∃ (k : Nat) (rs2 : List Run) (r2 : Run), k ≤ nl ∧ jx = .int .i64 k ∧ rs2.length = na ∧ rs2[i]? = some r2 ∧ r2.ops.length = nl ∧ Hid (∀ (t : Nat) (r : Run), i + 1 ≤ t → rs2[t]? = some r → r.ops.length ≤ 16) ∧ Hid (LogIn Sa wz (.slice (some ⟨g, 0, none⟩) na c3) rs2 ovs') ∧ Hid (Turn Sa W6 wz)) (fun jx _ => nl - (intOf jx).toNat)
          case atStart => exact ⟨0, rs', r, by omega, rfl, HL0.out, HR0.out, HNL.out, Lib.hid fun t r h1 h2 => HO.out t r (by omega) h2, HL, HT⟩
          case round =>
            clear HO HL HT HL0 HR0 HNL
            obtain ⟨k, rs2, r2, hk, rfl, hl2, hr2, hn2, HO, HL, HT⟩ := hrel
            obtain ⟨g', r', A1', c1', e1, hr', hov', hc7, hown⟩ := HL.out.at (i := i) (by omega)
            injection e1 with e1
            injection e1 with e1
            subst e1
            rw [hr2] at hr'
            injection hr' with hr'
            subst hr'
            rw [HOV.out, hn2] at hov'
            injection hov' with hov'
            injection hov' with e2 e3 e4
            subst e2 e4
            rw [hn2] at hc7 hown
            have HL2 := Lib.hid hl2
            have HR2 := Lib.hid hr2
            have HN2 := Lib.hid hn2
            by_cases hlt2 : k < nl
            · obtain ⟨g1, o1, rfl, ho1, hcc, hff, hlt1⟩ := Own.at MOp.len hown (i := k) (by omega)
              have q0 := hcc 0 (by omega)
              have q1 := hcc 1 (by omega)
              have q2 := hcc 2 (by omega)
              have q3 := hcc 3 (by omega)
              simp only [MOp.cells, List.getElem?_cons_zero, List.getElem?_cons_succ, Nat.add_zero] at q0 q1 q2 q3
              have hj0 : (0 : Int) ≤ (k : Int) := by omega
              have hj1 : (k : Int) < (nl : Int) := by omega
              have HM := Lib.hid (HL.out.mark hr2 HOV.out (k := k) (by omega) (mk 50))
              clear hcc hown hl2 hr2 hn2
              go_wp2_with fail
              obtain ⟨m1, m2⟩ := HM.out
              exact ⟨⟨k + 1, rs2.set i { r2 with ops := r2.ops.set k (mk 50) }, { r2 with ops := r2.ops.set k (mk 50) }, by omega, rfl, by rw [List.length_set]; exact HL2.out, by rw [List.getElem?_set, if_pos rfl, if_pos (by rw [HL2.out]; omega)], by show (r2.ops.set k (mk 50)).length = nl; rw [List.length_set]; exact HN2.out,
                Lib.hid fun t r h1 h2 => HO.out t r h1 (by rw [List.getElem?_set, if_neg (by omega)] at h2; exact h2), Lib.hid m1, Lib.hid (HT.out.trans m2)⟩, by show nl - ((k : Int) + 1).toNat < nl - (k : Int).toNat; omega⟩
            · obtain rfl : k = nl := by omega
              have hba := (Below.refl wr.heap.size wr).alloc (Nat.le_refl _) (.cells #[.int .i64 51, .string ⟨#[]⟩, .bool false, .string ⟨#[]⟩, .int .i64 52, .string ⟨#[]⟩, .bool false, .string ⟨#[]⟩] 67)
              have HLA := Lib.hid (HL.out.below hba)
              have HTA := Lib.hid (HT.out.alloc (.cells #[.int .i64 51, .string ⟨#[]⟩, .bool false, .string ⟨#[]⟩, .int .i64 52, .string ⟨#[]⟩, .bool false, .string ⟨#[]⟩] 67))
              have HOWN := Lib.hid (Own.below hown hba)
              have HRD := Lib.hid (Own.read (show Own (wr.alloc (.cells #[.int .i64 51, .string ⟨#[]⟩, .bool false, .string ⟨#[]⟩, .int .i64 52, .string ⟨#[]⟩, .bool false, .string ⟨#[]⟩] 67)) 0 67 4 MOp.cells (.slice (some ⟨wr.heap.size, 0, none⟩) 2 2) [mk 51, mk 52] from RowAt.own (RowAt.new wr 67 [.int .i64 51, .string ⟨#[]⟩, .bool false, .string ⟨#[]⟩, .int .i64 52, .string ⟨#[]⟩, .bool false, .string ⟨#[]⟩]) (Nat.zero_le _) rfl (by decide)))
              have HSZ := Lib.hid (show r2.ops.length + [mk 51, mk 52].length ≤ maxLen ∧ (r2.ops.length + [mk 51, mk 52].length) * 48 ≤ 140737488355328 by rw [hn2]; unfold maxLen; simp; omega)
              have HSW := Lib.hid (show Sa (wr.alloc (.cells #[.int .i64 51, .string ⟨#[]⟩, .bool false, .string ⟨#[]⟩, .int .i64 52, .string ⟨#[]⟩, .bool false, .string ⟨#[]⟩] 67)).heap.size from (HSA.out _).2 (.inr (by have := SW.out; have := HT.out.size; simp; omega)))
              clear hba hown hl2 hr2 hn2
              go_wp2_with (at_builtin; refine cat_list MOp.cells 67 53 53 67 (.agg MOp.zero.cells.toArray) 4 48 Try.underlying53 Try.underlying53 (by kernel_rfl) rfl (by decide) MOp.len op_one _ _ (by rfl) (by rfl) 0 (.slice A1 k c1) r2.ops [mk 51, mk 52] (by rfl) HOWN.out (.slice (some ⟨wr.heap.size, 0, none⟩) 2 2) (by rfl) HRD.out HSZ.out.1 HSZ.out.2 (by simp) ?_)
              intro v7 w7 o7 g7 l7
              obtain ⟨A7, c7, rfl⟩ := own_forms o7
              have O7 := Lib.hid o7
              have G7 := Lib.hid g7
              have L7 := Lib.hid l7
              have hln : (r2.ops ++ [mk 51, mk 52]).length = k + 2 := by rw [List.length_append, HN2.out]; rfl
              have hrow := HLA.out.grown HOV.out G7.out
              obtain ⟨gA, x1, e1, -, hcc, hff, hlt1⟩ := Own.at logC_len hrow (i := i) (by rw [List.length_zip, HLA.out.log.len, Nat.min_self, HL2.out]; omega)
              injection e1 with e1
              injection e1 with e1
              subst e1
              have z0 := hcc 0 (by omega)
              have z1 := hcc 1 (by omega)
              have z2 := hcc 2 (by omega)
              have z3 := hcc 3 (by omega)
              have z4 := hcc 4 (by omega)
              have z5 := hcc 5 (by omega)
              have z6 := hcc 6 (by omega)
              have z7 := hcc 7 (by omega)
              simp only [logC, txnC, List.getElem?_cons_zero, List.getElem?_cons_succ, Nat.add_zero] at z0 z1 z2 z3 z4 z5 z6 z7
              rw [hln] at O7 L7 ⊢
              have HSWAP := Lib.hid (HLA.out.swap HR2.out HOV.out G7.out O7.out (L7.out.imp id fun h => h.trans (by simp)) HSW.out ⟨0, 53, 0, 0, 0, 0, 0, r2.ops ++ [mk 51, mk 52], []⟩ rfl)
              clear hcc hrow o7 g7 l7 hln
              go_wp2_with fail
              obtain ⟨m1, m2⟩ := HSWAP.out
              exact ⟨⟨i + 1, rs2.set i ⟨0, 53, 0, 0, 0, 0, 0, r2.ops ++ [mk 51, mk 52], []⟩, ovs'.set i (.slice A7 (k + 2) c7), by omega, rfl, by rw [List.length_set]; exact HL2.out,
                Lib.hid fun t r h1 h2 => HO.out t r h1 (by rw [List.getElem?_set, if_neg (by omega)] at h2; exact h2), Lib.hid m1, Lib.hid (HTA.out.trans m2)⟩, by show na - ((i : Int) + 1).toNat < na - (i : Int).toNat; omega⟩
        · obtain rfl : na = i := by omega
          clear hlt hi
          obtain ⟨W7, hW7⟩ : ∃ z, z = wr := ⟨_, rfl⟩
          subst hW7
          obtain ⟨Sc, hSc⟩ : ∃ S : Nat → Prop, S = fun q => h4 ≤ q ∧ q < h5 := ⟨_, rfl⟩
          have HSC := Lib.hid (fun q => (by rw [hSc] : Sc q ↔ (h4 ≤ q ∧ q < h5)))
          clear hSc
          have LC7 := Lib.hid ((LCW.out.turn HT.out fun q hq h => by have := (HSA.out q).1 h; have := S3.out; have := S4.out; have := S5.out; omega).mono fun q hq => (HSC.out q).2 hq)
          have LB7 := Lib.hid (LBW.out.turn HT.out fun q hq h => by have := (HSA.out q).1 h; have := S3.out; have := S4.out; have := S5.out; omega)
          have R7 := Lib.hid (RW.out.turn HT.out fun a ha h => by
            have h1 := L2.out a.block (by rw [ha]; rfl)
            have := (HSA.out _).1 h; have := S3.out; have := S4.out; have := S5.out; omega)
          have HF7 := Lib.hid (HFW.out.turn HT.out fun q hq h => by have := (HFL.out q hq).2; have := (HSA.out q).1 h; have := S3.out; have := S4.out; have := S5.out; omega)
          have B7 := Lib.hid (BW.out.trans (HT.out.below BW.out.size fun q hq h => by have := (HSA.out q).1 h; have := S2.out; have := S3.out; have := S4.out; have := S5.out; omega))
          have S7 := Lib.hid (Nat.le_trans SW.out HT.out.size)
          clear LCW LBW RW HFW BW HL HT HO SW
          go_wp2_with fail
          go_loopw [98] (fun ix wq => ∃ (i : Nat) (rs' : List Run), i ≤ nc ∧ ix = .int .i64 i ∧ rs'.length = nc ∧ Hid (LogIn Sc wq (.slice A5 nc c5) rs' oc) ∧ Hid (Turn Sc W7 wq)) (fun ix _ => nc - (intOf ix).toNat)
          case atStart => exact ⟨0, _, by omega, rfl, HNC.out.symm, LC7, Lib.hid (Turn.refl _ _)⟩
          case round =>
            clear LC7
            obtain ⟨i, rs', hi, rfl, hl, HL, HT⟩ := hrel
            by_cases hlt : i < nc
            · obtain ⟨g, r, A1, c1, rfl, hr, hov, hc7, hown⟩ := HL.out.at (i := i) (by omega)
              obtain ⟨nl, hnl⟩ : ∃ z, z = r.ops.length := ⟨_, rfl⟩
              rw [← hnl] at hov hc7 hown
              have hnlm : nl ≤ maxLen := by
                have := Own.big hown
                omega
              have hnlm' : nl ≤ 9223372036854775807 := by unfold maxLen at hnlm; omega
              have HNL := Lib.hid hnl.symm
              have HOV := Lib.hid hov
              have HL0 := Lib.hid hl
              have HR0 := Lib.hid hr
              have hncm : nc ≤ 9223372036854775807 := by unfold maxLen at hnc4; omega
              have hi0 : (0 : Int) ≤ (i : Int) := by omega
              have hi1 : (i : Int) < (nc : Int) := by omega
              clear hnl hov hl hr hown hnlm
              go_wp2_with fail
              clear hc7
              go_loopw [107] (fun jx wz => ∃ (k : Nat) (rs2 : List Run) (r2 : Run), k ≤ nl ∧ jx = .int .i64 k ∧ rs2.length = nc ∧ rs2[i]? = some r2 ∧ r2.ops.length = nl ∧ Hid (LogIn Sc wz (.slice (some ⟨g, 0, none⟩) nc c5) rs2 oc) ∧ Hid (Turn Sc W7 wz)) (fun jx _ => nl - (intOf jx).toNat)
              case atStart => exact ⟨0, rs', r, by omega, rfl, HL0.out, HR0.out, HNL.out, HL, HT⟩
              case round =>
                clear HL HT HL0 HR0 HNL
                obtain ⟨k, rs2, r2, hk, rfl, hl2, hr2, hn2, HL, HT⟩ := hrel
                obtain ⟨g', r', A1', c1', e1, hr', hov', hc7, hown⟩ := HL.out.at (i := i) (by omega)
                injection e1 with e1
                injection e1 with e1
                subst e1
                rw [hr2] at hr'
                injection hr' with hr'
                subst hr'
                rw [HOV.out, hn2] at hov'
                injection hov' with hov'
                injection hov' with e2 e3 e4
                subst e2 e4
                rw [hn2] at hc7 hown
                have HL2 := Lib.hid hl2
                have HR2 := Lib.hid hr2
                have HN2 := Lib.hid hn2
                by_cases hlt2 : k < nl
                · obtain ⟨g1, o1, rfl, ho1, hcc, hff, hlt1⟩ := Own.at MOp.len hown (i := k) (by omega)
                  have q0 := hcc 0 (by omega)
                  have q1 := hcc 1 (by omega)
                  have q2 := hcc 2 (by omega)
                  have q3 := hcc 3 (by omega)
                  simp only [MOp.cells, List.getElem?_cons_zero, List.getElem?_cons_succ, Nat.add_zero] at q0 q1 q2 q3
                  have hj0 : (0 : Int) ≤ (k : Int) := by omega
                  have hj1 : (k : Int) < (nl : Int) := by omega
                  have HM := Lib.hid (HL.out.mark hr2 HOV.out (k := k) (by omega) (mk 54))
                  clear hcc hown hl2 hr2 hn2
                  go_wp2_with fail
                  obtain ⟨m1, m2⟩ := HM.out
                  exact ⟨⟨k + 1, rs2.set i { r2 with ops := r2.ops.set k (mk 54) }, { r2 with ops := r2.ops.set k (mk 54) }, by omega, rfl, by rw [List.length_set]; exact HL2.out, by rw [List.getElem?_set, if_pos rfl, if_pos (by rw [HL2.out]; omega)], by show (r2.ops.set k (mk 54)).length = nl; rw [List.length_set]; exact HN2.out,
                    Lib.hid m1, Lib.hid (HT.out.trans m2)⟩, by show nl - ((k : Int) + 1).toNat < nl - (k : Int).toNat; omega⟩
                · obtain rfl : k = nl := by omega
                  go_wp2_with fail
                  exact ⟨⟨i + 1, rs2, by omega, rfl, HL2.out, HL, HT⟩, by show nc - ((i : Int) + 1).toNat < nc - (i : Int).toNat; omega⟩
            · obtain rfl : nc = i := by omega
              clear hlt hi
              obtain ⟨W8, hW8⟩ : ∃ z, z = wr := ⟨_, rfl⟩
              subst hW8
              have LB8 := Lib.hid (LB7.out.turn HT.out fun q hq h => by have := (HSC.out q).1 h; omega)
              have R8 := Lib.hid (R7.out.turn HT.out fun a ha h => by
                have h1 := L2.out a.block (by rw [ha]; rfl)
                have := (HSC.out _).1 h; have := S3.out; have := S4.out; have := S5.out; omega)
              have HF8 := Lib.hid (HF7.out.turn HT.out fun q hq h => by have := (HFL.out q hq).2; have := (HSC.out q).1 h; have := S3.out; have := S4.out; have := S5.out; omega)
              have B8 := Lib.hid (B7.out.trans (HT.out.below B7.out.size fun q hq h => by have := (HSC.out q).1 h; have := S2.out; have := S3.out; have := S4.out; have := S5.out; omega))
              clear LB7 R7 HF7 B7 HL HT
              go_wp2_with fail
              refine (emit_any 4 0 A2 n c2 xs W8 (by rfl) HN.out (by omega) HX.out R8.out).mono ?_
              rintro e w9 ⟨v9, od, rfl, l9, b9⟩
              obtain ⟨A9, c9, rfl⟩ := own_forms l9.row
              rw [← HRC.out] at l9
              have hzc : (rc.zip od).length = rc.length := by rw [List.length_zip, l9.len, Nat.min_self]
              rw [← HRC.out, hzc]
              rw [hzc] at l9
              rw [← HNC.out] at l9 ⊢
              have L9 := Lib.hid l9
              have LB9 := Lib.hid (LB8.out.below b9)
              have HF9 := Lib.hid (HF8.out.below b9)
              have B9 := Lib.hid (B8.out.trans (b9.mono B8.out.size))
              clear l9 b9 hzc LB8 HF8 B8
              have hpre : na ≤ nc ∧ rc.take na = runsOf M0 := by
                obtain ⟨l, hl⟩ := emit_log 4 0 (by omega) xs
                rw [← HRC.out, ← HM0.out] at hl
                have h1 := congrArg List.length hl
                rw [List.length_append, ← HNC.out, ← HNA.out] at h1
                exact ⟨by omega, by rw [hl]; exact List.take_left' HNA.out.symm⟩
              have HTK := Lib.hid hpre.2
              have hna5 : (na : Int) ≤ (nc : Int) := by omega
              obtain ⟨-, hcap, hcm, hA9⟩ := Own.big L9.out.row
              have hna6 : (na : Int) ≤ (c9 : Int) := by omega
              clear hpre
              go_wp2_with fail
              refine (log_mb w0.heap.size m M0 w9 ⟨F, HF9.out, fun q hq => (HFL.out q hq).1⟩).mono ?_
              rintro e w10 ⟨v10, oe, rfl, l10, b10⟩
              obtain ⟨A10, c10, rfl⟩ := own_forms l10.row
              have hze : ((runsOf M0).zip oe).length = (runsOf M0).length := by rw [List.length_zip, l10.len, Nat.min_self]
              rw [hze, ← HNA.out] at l10 ⊢
              have L10 := Lib.hid l10
              have LD10 := Lib.hid (L9.out.below b10)
              have LB10 := Lib.hid (LB9.out.below b10)
              have B10 := Lib.hid (B9.out.trans (b10.mono B9.out.size))
              clear l10 b10 hze L9 LB9 HF9 B9
              go_wp2_with fail
              refine (same_list (runsOf M0) oe ob na A10 A4 c10 c4 w10 HNA.out.symm (by omega) (runs_ops PL.out) L10.out.rd LB10.out.log.rd).mono ?_
              rintro e w11 ⟨rfl, b11⟩
              have LD11 := Lib.hid (LD10.out.below b11)
              have LB11 := Lib.hid (LB10.out.below b11)
              have B11 := Lib.hid (B10.out.trans (b11.mono B10.out.size))
              clear b11 L10 LD10 LB10 B10
              rcases hA9 with ⟨rfl, hn0, rfl⟩ | ⟨g9, rfl⟩
              · have hna0 : na = 0 := by omega
                subst hna0
                subst hn0
                clear hna5 hna6 hcap hcm
                go_wp2_with fail
                refine (same_list (runsOf M0) (od.take 0) ob 0 _ A4 _ c4 w11 HNA.out.symm (by omega) (runs_ops PL.out) (by have h := LD11.out.rd.take 0; rw [HTK.out] at h; exact h) LB11.out.log.rd).mono ?_
                rintro e w12 ⟨rfl, b12⟩
                go_wp2_with fail
                go_ret
                exact ⟨rfl, B11.out.trans (b12.mono B11.out.size)⟩
              · go_wp2_with fail
                refine (same_list (runsOf M0) (od.take na) ob na _ A4 _ c4 w11 HNA.out.symm (by omega) (runs_ops PL.out) (by have h := LD11.out.rd.take na; rw [HTK.out] at h; exact h) LB11.out.log.rd).mono ?_
                rintro e w12 ⟨rfl, b12⟩
                go_wp2_with fail
                go_ret
                exact ⟨rfl, B11.out.trans (b12.mono B11.out.size)⟩

end Go.Proofs.Ytfodagidmdbmlaa
