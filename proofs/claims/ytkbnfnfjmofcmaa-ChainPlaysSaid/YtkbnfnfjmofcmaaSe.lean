/- ChainSeen: the walk. -/
import Derived.Test.YtkbnfnfjmofcmaaFi
namespace Go.Proofs.Ytkbnfnfjmofcmaa
set_option linter.unusedVariables false
set_option linter.unusedSimpArgs false
open Go.RowKit

def Ver.eqb (a b : Ver) : Bool := a.commit == b.commit && (a.writer == b.writer && (a.found == b.found && (a.value.toList == b.value.toList)))
theorem Ver.eqb_iff (a b : Ver) : a.eqb b = true ↔ a = b := by
  obtain ⟨a0, a1, a2, a3⟩ := a
  obtain ⟨b0, b1, b2, b3⟩ := b
  unfold Ver.eqb
  simp only [Bool.and_eq_true, beq_iff_eq, Ver.mk.injEq]
  constructor
  · rintro ⟨h0, h1, h2, h3⟩
    exact ⟨h0, h1, h2, bytes_eq h3⟩
  · rintro ⟨h0, h1, h2, h3⟩
    exact ⟨h0, h1, h2, by rw [h3]⟩
theorem eqVer (d : Nat) (w : World) (x0 y0 : Int) (x1 y1 : Int) (x2 y2 : Bool) (x3 y3 : ByteArray) :
    (Op.equalIn (d + 2) 27 (.agg #[.int .i64 x0, .int .i64 x1, .bool x2, .string x3]) (.agg #[.int .i64 y0, .int .i64 y1, .bool y2, .string y3])).run Try.prog w = .ok (Ver.eqb ⟨x0, x1, x2, x3⟩ ⟨y0, y1, y2, y3⟩) w := by
  refine eqStruct_of Try.underlying27 (by kernel_rfl) ?_
  refine eqField_cons (by rfl) (by go_simp; rfl) (by go_simp; rfl) (by go_simp) ?_
  refine eqField_cons (by rfl) (by go_simp; rfl) (by go_simp; rfl) (by go_simp) ?_
  refine eqField_cons (by rfl) (by go_simp; rfl) (by go_simp; rfl) (by go_simp) ?_
  exact eqField_last (by rfl) (by go_simp; rfl) (by go_simp; rfl) (by go_simp)
attribute [local go_sem high] eqVer
theorem cut_iff {l : List Ver} {t : Int} (hr : Rising l) {k : Nat} {x : Ver} (hx : l[k]? = some x) : x.commit ≤ t ↔ k < cut l t := by
  induction l generalizing k with
  | nil => simp at hx
  | cons y l ih =>
    have hc : ∀ b, b = decide (y.commit ≤ t) → cut (y :: l) t = if b = true then cut l t + 1 else 0 := by
      rintro b rfl
      unfold cut
      rw [List.takeWhile_cons]
      split <;> simp
    rw [hc _ rfl]
    cases k with
    | zero =>
      simp at hx
      subst hx
      by_cases h : y.commit ≤ t <;> simp [h]
    | succ k =>
      have hx' : l[k]? = some x := by simpa using hx
      have h1 := ih (List.Pairwise.of_cons hr) hx'
      have h2 := Rising.le hr (i := 0) (k := k + 1) (by omega) rfl hx
      by_cases h : y.commit ≤ t
      · rw [if_pos (by simpa using h), h1]; omega
      · rw [if_neg (by simpa using h)]; constructor <;> intro _ <;> omega
theorem belowN {B : Nat} {w wr : World} (h : Below B w wr) (n : Nat) : Below B w (wr.drewN n) := ⟨h.os, h.tape, h.output, h.size, h.block⟩
set_option maxRecDepth 100000 in
set_option maxHeartbeats 6400000 in
theorem seen_walk (A : Option Addr) (n cap : Nat) (xs : List Op) (key : ByteArray) (t : Int) (w : World) (hn : xs.length = n) (hm : n < 2900000000000) (hx : ∀ o ∈ xs, o.Fits) (hk : key.size ≤ maxLen) (h : SliceRd w A 7 Op.cells xs) :
    Calls Try.prog 3 #[.slice A n cap, .string key, .int .i64 t] w fun e w' => e = .returned (.bool true) ∧ Below w.heap.size w w' := by
  have HX := Lib.hid hx
  have HN := Lib.hid hn
  have HR := Lib.hid h
  have HK := Lib.hid hk
  clear hx hn h hk
  go_enter Try.func3, Try.ntmps3
  go_wp2_with fail
  refine (anchor_any w).mono ?_
  rintro e w1 ⟨rfl, b1⟩
  have B1 := Lib.hid b1
  clear b1
  go_wp2_with fail
  refine (fill_any A n cap xs _ HN.out hm HX.out (HR.out.below B1.out)).mono ?_
  rintro e w2 ⟨p, rfl, ⟨F2, s2, -⟩, b2⟩
  have B2 := Lib.hid (B1.out.trans (b2.mono B1.out.size))
  have S2 := Lib.hid s2
  have HI := Lib.hid (fillF_inc xs key)
  obtain ⟨st, hst⟩ : ∃ st, st = fillF xs := ⟨_, rfl⟩
  rw [← hst] at S2 HI
  clear b2 s2 hst B1 HR HX
  go_wp2_with fail
  refine (at_any F2 p st.1 n st.2 key t _ S2.out HK.out (by omega) HI.out.rising).mono ?_
  rintro e w3 ⟨rfl, b3⟩
  have B3 := Lib.hid (B2.out.trans (b3.mono B2.out.size))
  have S3 := Lib.hid (S2.out.below b3)
  obtain ⟨l, hl⟩ : ∃ l, l = st.2 key := ⟨_, rfl⟩
  rw [← hl] at HI ⊢
  have HL := Lib.hid hl
  obtain ⟨ao, hao⟩ : ∃ o, o = atV l t := ⟨_, rfl⟩
  rw [← hao]
  have HAO := Lib.hid hao
  obtain ⟨ob, hob⟩ : ∃ o, o = ao.isSome := ⟨_, rfl⟩
  obtain ⟨⟨a0, a1, a2, a3⟩, hav⟩ : ∃ o, o = ao.getD Ver.zero := ⟨_, rfl⟩
  have ev : seen ao = .tuple #[.agg #[.int .i64 a0, .int .i64 a1, .bool a2, .string a3], .bool ob] := by unfold seen; rw [← hav, ← hob]; rfl
  rw [ev]
  have HOB := Lib.hid hob
  have HAV := Lib.hid hav
  clear b3 hl hao hob hav ev S2 B2
  go_wp2_with fail
  have b4 := (Below.refl w3.heap.size w3).alloc (Nat.le_refl _) (.cells #[.int .i64 a0, .int .i64 a1, .bool a2, .string a3] 27)
  refine (after_any F2 p st.1 n st.2 key t _ (S3.out.below b4) HK.out (by omega) (by rw [← HL.out]; exact HI.out.rising)).mono ?_
  rintro e w5 ⟨rfl, b5⟩
  have RA := Lib.hid ((RowAt.new w3 27 (Ver.cells ⟨a0, a1, a2, a3⟩)).below b5)
  have B5 := Lib.hid (B3.out.trans ((b4.trans (b5.mono (by simp))).mono B3.out.size))
  have S5 := Lib.hid ((S3.out.below b4).below b5)
  rw [← HL.out]
  obtain ⟨bo, hbo⟩ : ∃ o, o = afterV l t := ⟨_, rfl⟩
  rw [← hbo]
  have HBO := Lib.hid hbo
  obtain ⟨hb, hhb⟩ : ∃ o, o = bo.isSome := ⟨_, rfl⟩
  obtain ⟨⟨v0, v1, v2, v3⟩, hbv⟩ : ∃ o, o = bo.getD Ver.zero := ⟨_, rfl⟩
  have ev : seen bo = .tuple #[.agg #[.int .i64 v0, .int .i64 v1, .bool v2, .string v3], .bool hb] := by unfold seen; rw [← hbv, ← hhb]; rfl
  rw [ev]
  have HHB := Lib.hid hhb
  have HBV := Lib.hid hbv
  clear b4 b5 hbo hhb hbv ev S3 B3
  go_wp2_with fail
  have b6 := (Below.refl w5.heap.size w5).alloc (Nat.le_refl _) (.cells #[.int .i64 v0, .int .i64 v1, .bool v2, .string v3] 27)
  have RB6 := RowAt.new w5 27 (Ver.cells ⟨v0, v1, v2, v3⟩)
  refine (chain_any F2 p st.1 n st.2 key _ (S5.out.below b6) HK.out (by omega)).mono ?_
  rintro e w7 ⟨lv, rfl, o7, b7⟩
  rw [← HL.out] at o7
  obtain ⟨AL, cl, rfl⟩ : ∃ A c, lv = .slice A l.length c := by
    rcases o7.cases with ⟨rfl, rfl⟩ | ⟨g, cap, rest, rfl, -⟩
    · exact ⟨none, 0, rfl⟩
    · exact ⟨_, _, rfl⟩
  have RA7 := Lib.hid ((RA.out.below b6).below b7)
  have RB7 := Lib.hid (RB6.below b7)
  have B7 := Lib.hid (B5.out.trans ((b6.trans (b7.mono (by simp))).mono B5.out.size))
  obtain ⟨nl, hnl⟩ : ∃ n, n = l.length := ⟨_, rfl⟩
  have hnlb : nl ≤ n := by
    rw [hnl, HL.out]
    obtain ⟨_, _, _, _, _, _, _, _, _, _, _, q⟩ := S5.out
    exact q key
  rw [← hnl] at o7 ⊢
  have HNL := Lib.hid hnl
  have O7 := Lib.hid (Own.mono o7 (Nat.zero_le _))
  clear b6 b7 RB6 o7 hnl S5 B5 RA
  go_wp2_with fail
  obtain ⟨m, hmm⟩ : ∃ m, m = cut l t := ⟨_, rfl⟩
  have hmn : m ≤ nl := by rw [hmm, HNL.out]; exact cut_le l t
  have HM := Lib.hid hmm
  clear hmm
  go_loopw [42, 12, 13] (fun i c d wr => ∃ k i1 i2 : Nat, k ≤ nl ∧ i = .int .i64 k ∧ c = .int .i64 i1 ∧ d = .int .i64 i2 ∧ Hid (i1 = min k m) ∧ i1 + i2 ≤ k ∧ k ≤ i1 + i2 ∧ Hid (Below w7.heap.size w7 wr)) (fun i _ _ _ => nl - (intOf i).toNat)
  case atStart => exact ⟨0, 0, 0, by omega, rfl, rfl, rfl, (Nat.zero_min m).symm, by omega, by omega, Below.refl _ _⟩
  case round =>
    obtain ⟨k, i1, i2, hkn, rfl, rfl, rfl, HI1, hi1, hi2, HB⟩ := hrel
    by_cases hlt : k < nl
    · have ho := VOwn.vers (Own.below O7.out HB.out)
      obtain ⟨g, x, rfl, hx, c0, c1, c2, c3⟩ := ho.cells (i := k) (by rw [← HNL.out]; exact hlt)
      have hiff := cut_iff (t := t) HI.out.rising hx
      rw [← HM.out] at hiff
      have HB2 := Lib.hid (HB.out.alloc HB.out.size (.cells #[.int .i64 x.commit, .int .i64 x.writer, .bool x.found, .string x.value] 27))
      have HT : ∀ b : Bool, b = decide (x.commit ≤ t) → Hid ((if b = true then k + 1 else i1) = min (k + 1) m) := by
        rintro b rfl
        have := HI1.out
        by_cases h : x.commit ≤ t
        · have := hiff.1 h
          rw [if_pos (by simpa using h)]
          exact Lib.hid (by omega)
        · have : ¬ k < m := fun hh => h (hiff.2 hh)
          rw [if_neg (by simpa using h)]
          exact Lib.hid (by omega)
      have hle : k < m → i1 = k := fun h => by have := HI1.out; omega
      cases k with
      | zero =>
        have hd : decide ((0 : Int) < ((0 : Nat) : Int)) = false := by decide
        by_cases hc : x.commit ≤ t
        · have HT1 := HT true (by simpa using hc)
          have hkm := hiff.1 hc
          have hi3 := hle hkm
          have HKM := Lib.hid hkm
          clear HT hiff ho hx hle hkm
          go_wp2_with fail
          go_quiet (fail)
          go_wp2_with fail
          go_roundw
          case rel => exact ⟨1, 1, i2, by omega, rfl, rfl, rfl, Lib.hid (by have := HT1.out; simpa using this), by omega, by omega, belowN HB2.out _⟩
          case measure => simp [intOf]; omega
        · have HT1 := HT false (by simpa using hc)
          clear HT hiff ho hx hle
          go_wp2_with fail
          go_quiet (fail)
          go_wp2_with fail
          go_roundw
          case rel => exact ⟨1, i1, i2 + 1, by omega, rfl, rfl, by go_num, Lib.hid (by have := HT1.out; simpa using this), by omega, by omega, belowN HB2.out _⟩
          case measure => simp [intOf]; omega
      | succ j =>
        obtain ⟨g2, y, eg, hy, d0, d1, d2, d3⟩ := ho.cells (i := j) (by rw [← HNL.out]; omega)
        obtain rfl : g = g2 := by injection eg with eg; injection eg
        obtain ⟨hly, ey⟩ := List.getElem?_eq_some_iff.1 hy
        obtain ⟨hlx, ex⟩ := List.getElem?_eq_some_iff.1 hx
        have hv := List.pairwise_iff_getElem.1 HI.out j (j + 1) hly hlx (by omega)
        rw [ey, ex] at hv
        have hgl : g < wr.heap.size := World.block_lt_of_cell? wr _ c0
        have hba := (Below.refl wr.heap.size wr).alloc (Nat.le_refl _) (.cells #[.int .i64 x.commit, .int .i64 x.writer, .bool x.found, .string x.value] 27)
        have e0 := (World.cell?_of_block (w := wr) (hba.block g hgl)).trans d0
        have e1 := (World.cell?_of_block (w := wr) (hba.block g hgl)).trans d1
        have hd : decide ((0 : Int) < (j : Int) + 1) = true := decide_eq_true (by omega)
        have hdn : decide (0 < j + 1) = true := decide_eq_true (by omega)
        have hw1 : IntKind.i64.wrap ((j : Int) + 1 - 1) = (j : Int) := by rw [wrap_in (by omega) (by omega)]; omega
        have hw2 : (0 : Int) ≤ (j : Int) := by omega
        have hw3 : (j : Int) < (nl : Int) := by omega
        clear hba d0 d1 d2 d3 hy eg ey ex hly hlx hgl
        rcases hv with hv | ⟨hv, hv2⟩
        · have hg1 : decide (x.commit < y.commit) = false := decide_eq_false (by omega)
          have hg2 : (y.commit == x.commit) = false := by simpa using (by omega : y.commit ≠ x.commit)
          by_cases hc : x.commit ≤ t
          · have HT1 := HT true (by simpa using hc)
            have hkm := hiff.1 hc
            have hi3 := hle hkm
            clear HT hiff ho hx hle hkm
            have HI3 := Lib.hid hi3
            clear hi3
            go_wp2_with fail
            go_quiet (fail)
            go_wp2_with fail
            go_roundw
            case rel => have := HI3.out; exact ⟨j + 2, j + 2, i2, by omega, by go_num, by go_num, rfl, Lib.hid (by have := HT1.out; simpa using this), by omega, by omega, belowN HB2.out _⟩
            case measure => simp [intOf]; omega
          · have HT1 := HT false (by simpa using hc)
            clear HT hiff ho hx hle
            go_wp2_with fail
            go_quiet (fail)
            go_wp2_with fail
            go_roundw
            case rel => exact ⟨j + 2, i1, i2 + 1, by omega, by go_num, rfl, by go_num, Lib.hid (by have := HT1.out; simpa using this), by omega, by omega, belowN HB2.out _⟩
            case measure => simp [intOf]; omega
        · have hg1 : decide (x.commit < y.commit) = false := decide_eq_false (by omega)
          have hg2 : (y.commit == x.commit) = true := by simpa using hv
          have hg3 : decide (x.writer ≤ y.writer) = false := decide_eq_false (by omega)
          have hvl : y.commit ≤ x.commit := by omega
          clear hv
          by_cases hc : x.commit ≤ t
          · have HT1 := HT true (by simpa using hc)
            have hkm := hiff.1 hc
            have hi3 := hle hkm
            clear HT hiff ho hx hle hkm
            have HI3 := Lib.hid hi3
            clear hi3
            go_wp2_with fail
            go_quiet (fail)
            go_wp2_with fail
            go_roundw
            case rel => have := HI3.out; exact ⟨j + 2, j + 2, i2, by omega, by go_num, by go_num, rfl, Lib.hid (by have := HT1.out; simpa using this), by omega, by omega, belowN HB2.out _⟩
            case measure => simp [intOf]; omega
          · have HT1 := HT false (by simpa using hc)
            clear HT hiff ho hx hle
            go_wp2_with fail
            go_quiet (fail)
            go_wp2_with fail
            go_roundw
            case rel => exact ⟨j + 2, i1, i2 + 1, by omega, by go_num, rfl, by go_num, Lib.hid (by have := HT1.out; simpa using this), by omega, by omega, belowN HB2.out _⟩
            case measure => simp [intOf]; omega
    · obtain rfl : k = nl := by omega
      have hm1 : i1 = m := by have := HI1.out; omega
      subst hm1
      have ho := VOwn.vers (Own.below O7.out HB.out)
      have rA := (RA7.out.below HB.out).cell
      have rB := (RB7.out.below HB.out).cell
      have a_0 := rA 0
      have a_1 := rA 1
      have a_2 := rA 2
      have a_3 := rA 3
      have b_0 := rB 0
      have b_1 := rB 1
      have b_2 := rB 2
      have b_3 := rB 3
      simp only [Ver.cells, List.getElem?_cons_zero, List.getElem?_cons_succ] at a_0 a_1 a_2 a_3 b_0 b_1 b_2 b_3
      have hq1 : ((i1 : Int) + (i2 : Int) == (k : Int)) = true := by simp; omega
      have hq2 : ((i1 : Int) + (i2 : Int) != (k : Int)) = false := by simp; omega
      have HB9 := Lib.hid (B7.out.trans (HB.out.mono B7.out.size))
      have hsA : Ver.eqb ⟨a0, a1, a2, a3⟩ ⟨a0, a1, a2, a3⟩ = true := (Ver.eqb_iff _ _).2 rfl
      have hsB : Ver.eqb ⟨v0, v1, v2, v3⟩ ⟨v0, v1, v2, v3⟩ = true := (Ver.eqb_iff _ _).2 rfl
      have hsZ : Ver.eqb ⟨0, 0, false, ⟨#[]⟩⟩ ⟨0, 0, false, ⟨#[]⟩⟩ = true := (Ver.eqb_iff _ _).2 rfl
      clear rA rB
      by_cases hb0 : i1 < k
      · obtain ⟨g, x, rfl, hx, c0, c1, c2, c3⟩ := ho.cells (i := i1) (by rw [← HNL.out]; exact hb0)
        have eb : bo = some x := by rw [HBO.out]; unfold afterV; rw [← HM.out]; exact hx
        have eh : hb = true := by rw [HHB.out, eb]; rfl
        have ev : (⟨v0, v1, v2, v3⟩ : Ver) = x := by rw [HBV.out, eb]; rfl
        subst ev
        subst eh
        clear eb hx
        have hz2 : decide (0 < i2) = true := decide_eq_true (by omega)
        have hz3 : decide ((0 : Int) < (i2 : Int)) = true := decide_eq_true (by omega)
        cases i1 with
        | zero =>
          have ea : ao = none := by rw [HAO.out]; unfold atV; rw [← HM.out]; rfl
          have eo : ob = false := by rw [HOB.out, ea]; rfl
          have ev : (⟨a0, a1, a2, a3⟩ : Ver) = ⟨0, 0, false, ⟨#[]⟩⟩ := by rw [HAV.out, ea]; rfl
          injection ev with ev0 ev1 ev2 ev3
          subst ev0 ev1 ev2 ev3 eo
          clear ea
          go_wp2_with fail
          go_quiet (fail)
          go_wp2_with fail
          go_quiet (fail)
          go_wp2_with fail
          go_ret
          exact ⟨rfl, belowN (belowN HB9.out _) _⟩
        | succ j =>
          obtain ⟨g2, y, eg, hy, d0, d1, d2, d3⟩ := ho.cells (i := j) (by rw [← HNL.out]; omega)
          obtain rfl : g = g2 := by injection eg with eg; injection eg
          have ea : ao = some y := by rw [HAO.out]; unfold atV; rw [← HM.out, if_pos (by omega)]; exact hy
          have eo : ob = true := by rw [HOB.out, ea]; rfl
          have ev : (⟨a0, a1, a2, a3⟩ : Ver) = y := by rw [HAV.out, ea]; rfl
          subst ev
          subst eo
          clear ea hy eg
          have hd : decide ((0 : Int) < (j : Int) + 1) = true := decide_eq_true (by omega)
          have hdn : decide (0 < j + 1) = true := decide_eq_true (by omega)
          have hw1 : IntKind.i64.wrap ((j : Int) + 1 - 1) = (j : Int) := by rw [wrap_in (by omega) (by omega)]; omega
          have hw2 : (0 : Int) ≤ (j : Int) := by omega
          have hw3 : (j : Int) < (k : Int) := by omega
          go_wp2_with fail
          go_quiet (fail)
          go_wp2_with fail
          go_quiet (fail)
          go_wp2_with fail
          go_ret
          exact ⟨rfl, belowN (belowN HB9.out _) _⟩
      · have hz2 : decide (0 < i2) = false := decide_eq_false (by omega)
        have hz3 : decide ((0 : Int) < (i2 : Int)) = false := decide_eq_false (by omega)
        have eb : bo = none := by rw [HBO.out]; unfold afterV; rw [← HM.out]; exact List.getElem?_eq_none (by rw [← HNL.out]; omega)
        have eh : hb = false := by rw [HHB.out, eb]; rfl
        have ev : (⟨v0, v1, v2, v3⟩ : Ver) = ⟨0, 0, false, ⟨#[]⟩⟩ := by rw [HBV.out, eb]; rfl
        injection ev with ev0 ev1 ev2 ev3
        subst ev0 ev1 ev2 ev3 eh
        clear eb
        cases i1 with
        | zero =>
          have ea : ao = none := by rw [HAO.out]; unfold atV; rw [← HM.out]; rfl
          have eo : ob = false := by rw [HOB.out, ea]; rfl
          have ev : (⟨a0, a1, a2, a3⟩ : Ver) = ⟨0, 0, false, ⟨#[]⟩⟩ := by rw [HAV.out, ea]; rfl
          injection ev with ev0 ev1 ev2 ev3
          subst ev0 ev1 ev2 ev3 eo
          clear ea
          go_wp2_with fail
          go_quiet (fail)
          go_wp2_with fail
          go_quiet (fail)
          go_wp2_with fail
          go_ret
          exact ⟨rfl, belowN (belowN HB9.out _) _⟩
        | succ j =>
          obtain ⟨g, y, rfl, hy, d0, d1, d2, d3⟩ := ho.cells (i := j) (by rw [← HNL.out]; omega)
          have ea : ao = some y := by rw [HAO.out]; unfold atV; rw [← HM.out, if_pos (by omega)]; exact hy
          have eo : ob = true := by rw [HOB.out, ea]; rfl
          have ev : (⟨a0, a1, a2, a3⟩ : Ver) = y := by rw [HAV.out, ea]; rfl
          subst ev
          subst eo
          clear ea hy
          have hd : decide ((0 : Int) < (j : Int) + 1) = true := decide_eq_true (by omega)
          have hdn : decide (0 < j + 1) = true := decide_eq_true (by omega)
          have hw1 : IntKind.i64.wrap ((j : Int) + 1 - 1) = (j : Int) := by rw [wrap_in (by omega) (by omega)]; omega
          have hw2 : (0 : Int) ≤ (j : Int) := by omega
          have hw3 : (j : Int) < (k : Int) := by omega
          go_wp2_with fail
          go_quiet (fail)
          go_wp2_with fail
          go_quiet (fail)
          go_wp2_with fail
          go_ret
          exact ⟨rfl, belowN (belowN HB9.out _) _⟩

end Go.Proofs.Ytkbnfnfjmofcmaa
