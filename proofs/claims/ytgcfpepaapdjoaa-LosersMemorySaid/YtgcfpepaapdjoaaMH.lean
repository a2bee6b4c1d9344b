/- The document's Merge, walked where its sizes are right. -/
import Derived.Test.YtgcfpepaapdjoaaMF
namespace Go.Proofs.Ytgcfpepaapdjoaa
set_option linter.unusedVariables false
set_option linter.unusedSimpArgs false
open Go.RowKit

set_option maxRecDepth 100000 in
set_option maxHeartbeats 8000000 in
theorem refmerge_any (o : Int) (ho : o = 1 ∨ o = 2) (A : Option Addr) (n c : Nat) (ls : List LL) (w : World) (hn : ls.length = n) (h1 : 1 ≤ n) (h2 : n ≤ 64) (H : ListsAt w A ls) (hl : ∀ l ∈ ls, l.rows.length ≤ maxLen) (tot : Nat) (htot : tot = (ls.map LL.rows).flatten.length) (ht : tot < 16777216) :
    Calls Try.prog 20 #[.int .i64 o, .slice A n c] w (RMPost o (ls.map LL.rows) (chk o (ls.map LL.rows)) w) := by
  have HN := Lib.hid hn
  have HH := Lib.hid H
  have HL := Lib.hid hl
  have HO := Lib.hid ho
  have HT := Lib.hid htot
  have ho1 : o ≤ 2 := by omega
  have ho2 : 1 ≤ o := by omega
  obtain ⟨res, hres⟩ : ∃ z, z = chk o (ls.map LL.rows) := ⟨_, rfl⟩
  rw [← hres]
  have HRES := Lib.hid hres
  have HAT := Lib.hid (show ∀ (i : Nat) (l : LL), ls[i]? = some l → (ls.map LL.rows)[i]? = some l.rows from fun i l h => by rw [List.getElem?_map, h]; rfl)
  have HAD := Lib.hid (show ∀ (i : Nat) (l : LL), ls[i]? = some l → (ls.map LL.rows).getD i [] = l.rows from fun i l h => by rw [List.getD_eq_getElem?_getD, List.getElem?_map, h]; rfl)
  clear hn H hl ho hres htot
  go_enter Try.func20, Try.ntmps20
  go_wp2_with fail
  go_loopw [7, 6] (fun ix vo wr => ∃ (i : Nat) (Ao : Option Addr) (no co : Nat) (acc : List Row), i ≤ n ∧ ix = .int .i64 i ∧ vo = .slice Ao no co ∧ Hid (no = acc.length) ∧ Hid (acc = ((ls.map LL.rows).take i).flatten) ∧ Hid (∀ j, j < i → listErr o ((ls.map LL.rows).getD j []) = 0) ∧ Hid (Own wr w.heap.size 45 7 Row.cells (.slice Ao no co) acc) ∧ Hid (Below w.heap.size w wr)) (fun ix _ _ => n - (intOf ix).toNat)
  case atStart => exact ⟨0, none, 0, 0, [], by omega, rfl, rfl, Lib.hid rfl, Lib.hid (by simp), Lib.hid (fun j hj => by omega), Lib.hid (Own.nil _ _ _ _ _), Lib.hid (Below.refl _ _)⟩
  case round =>
    obtain ⟨i, Ao, no, co, acc, hi, rfl, rfl, HNO, HACC, HZ, HOW, HB⟩ := hrel
    by_cases hlt : i < n
    · obtain ⟨l, hl⟩ : ∃ l, ls[i]? = some l := ⟨_, List.getElem?_eq_getElem (by rw [HN.out]; exact hlt)⟩
      obtain ⟨b0, off, rfl, k0, hin⟩ := HH.out.at hl
      have HK0 := Lib.hid k0
      have HIN := Lib.hid hin
      have HLM := Lib.hid (HL.out l (List.mem_of_getElem? hl))
      have HLA := Lib.hid (HAT.out i l hl)
      have HLD := Lib.hid (HAD.out i l hl)
      have hb0 : b0 < w.heap.size := World.block_lt_of_cell? _ _ k0
      obtain ⟨A1, c1, rows⟩ := l
      obtain ⟨m, hrm⟩ : ∃ m, m = rows.length := ⟨_, rfl⟩
      have HRM := Lib.hid hrm
      have hmx : m ≤ maxLen := by rw [hrm]; exact HLM.out
      have HKM := Lib.hid (show w.cell? ⟨b0, off + i, none⟩ = some (.slice A1 m c1) by rw [hrm]; exact k0)
      unfold maxLen at hmx
      have hi0 : (0 : Int) ≤ (i : Int) := by omega
      have hi1 : (i : Int) < (n : Int) := by omega
      have HB0 := Lib.hid hb0
      clear hl hin hrm k0 HK0 hb0
      go_wp2_with fail
      obtain ⟨wo, rfl⟩ : ∃ wo : World, wo = wr := ⟨_, rfl⟩
      go_loopw [8, 6] (fun ix vo wi => ∃ (k : Nat) (Ao : Option Addr) (no co : Nat) (acc : List Row), k ≤ m ∧ ix = .int .i64 k ∧ vo = .slice Ao no co ∧ Hid (no = acc.length) ∧ Hid (acc = ((ls.map LL.rows).take i).flatten ++ rows.take k) ∧ Hid (∀ j, j < k → errAt o rows j = 0) ∧ Hid (Own wi w.heap.size 45 7 Row.cells (.slice Ao no co) acc) ∧ Hid (Below w.heap.size w wi)) (fun ix _ _ => m - (intOf ix).toNat)
      case atStart => exact ⟨0, Ao, no, co, acc, by omega, rfl, rfl, HNO, Lib.hid (by rw [List.take_zero, List.append_nil]; exact HACC.out), Lib.hid (fun j hj => by omega), HOW, HB⟩
      case round =>
        clear HNO HACC HOW HB
        obtain ⟨k, Ao, no, co, acc, hk, rfl, rfl, HNO, HACC, HE, HOW, HB⟩ := hrel
        have kl : wr.cell? ⟨b0, off + i, none⟩ = some (.slice A1 m c1) := (HB.out.cell (p := ⟨b0, off + i, none⟩) HB0.out).trans HKM.out
        by_cases hkm : k < m
        · obtain ⟨x, hx⟩ : ∃ x, rows[k]? = some x := ⟨_, List.getElem?_eq_getElem (by rw [← HRM.out]; exact hkm)⟩
          obtain ⟨b1, off1, rfl, hb1, x0, x1, x2, x3, x4, x5, x6⟩ := row_at (HIN.out.below HB.out) hx
          have HXR := Lib.hid (show rowAt' rows k = x by unfold rowAt'; rw [List.getD_eq_getElem?_getD, hx]; rfl)
          have HXT := Lib.hid (show rows.take (k + 1) = rows.take k ++ [x] by
            obtain ⟨h, e⟩ := List.getElem?_eq_some_iff.1 hx
            rw [List.take_succ_eq_append_getElem h, e])
          have hk0 : (0 : Int) ≤ (k : Int) := by omega
          have hk1 : (k : Int) < (m : Int) := by omega
          obtain ⟨y0, y1, y2, y3, y4, y5, y6⟩ := x
          simp only at x0 x1 x2 x3 x4 x5 x6
          have HBX := Lib.hid ((Below.refl wr.heap.size wr).alloc (Nat.le_refl _) (.cells #[.int .i64 y0, .int .i64 y1, .int .i64 y2, .int .i64 y3, .int .i64 y4, .int .i64 y5, .string y6] 45))
          have BX := Lib.hid (RowAt.new wr 45 [.int .i64 y0, .int .i64 y1, .int .i64 y2, .int .i64 y3, .int .i64 y4, .int .i64 y5, .string y6])
          obtain ⟨kv, hkv⟩ : ∃ z, z = Row.ok ⟨y0, y1, y2, y3, y4, y5, y6⟩ := ⟨_, rfl⟩
          have HKV := Lib.hid hkv
          clear hx hkv
          go_wp2_with fail
          refine (refvalid_any ⟨y0, y1, y2, y3, y4, y5, y6⟩ _).mono ?_
          rw [← HKV.out]
          rintro e w5 ⟨rfl, b5⟩
          have HB5 := Lib.hid (HBX.out.trans (b5.mono (by simp)))
          have BX5 := Lib.hid (BX.out.below b5)
          clear b5 x0 x1 x2 x3 x4 x5 x6 kl
          cases kv with
          | false =>
            go_wp2_with fail
            go_ret2
            have hr : res = 90 := by
              rw [HRES.out]
              exact chk_hit (by rw [List.length_map, HN.out]; exact hlt) HLD.out HZ.out (by rw [← HRM.out]; exact hkm) HE.out (by unfold errAt; rw [HXR.out, ← HKV.out, if_pos rfl]) (by decide)
            rw [hr]
            exact ⟨fun _ => ⟨rfl, HB.out.trans (HB5.out.mono HB.out.size)⟩, fun h => by cases h⟩
          | true =>
            have hxc := BX5.out.cell
            have HNT := Lib.hid (show no + 1 ≤ tot by
              have h8 := flat_part (k := k + 1) HLA.out
              rw [HT.out, HNO.out, HACC.out, List.length_append]
              rw [HXT.out, List.length_append] at h8
              simp only [List.length_singleton] at h8
              omega)
            by_cases hz : k = 0
            · have hb0 : decide (0 < k) = false := decide_eq_false (by omega)
              have hb1 : ¬ (0 : Int) < (k : Int) := by omega
              have HE1 := Lib.hid (errs_next HE.out (by unfold errAt; rw [HXR.out, ← HKV.out, if_neg (by decide), if_neg (by omega)]))
              clear hz
              go_wp2_with fail
              go_region
              have hxc := (BX5.out.drew).cell
              have HBW := Lib.hid (HB.out.trans (HB5.out.mono HB.out.size)).drew
              have HOW5 := Lib.hid (show Own w5.drew w.heap.size 45 7 Row.cells (.slice Ao no co) acc from Own.drawn (Own.below HOW.out HB5.out))
              have HOB := Lib.hid (show Own (w5.drew.alloc (.cells #[.int .i64 y0, .int .i64 y1, .int .i64 y2, .int .i64 y3, .int .i64 y4, .int .i64 y5, .string y6] 45)) w.heap.size 45 7 Row.cells (.slice Ao no co) acc from HOW5.out.alloc _)
              have HLO := Lib.hid (show acc.length = no from HNO.out.symm)
              have HSL := Lib.hid (show acc.length + 1 ≤ maxLen ∧ (acc.length + 1) * 64 ≤ 140737488355328 by rw [HLO.out]; have := HNT.out; unfold maxLen; omega)
              have HSW := Lib.hid (show w.heap.size ≤ w5.drew.heap.size from HBW.out.size)
              go_wp2_with (at_builtin; go_loud (refine push_list Row.cells 45 51 45 (.agg Row.zero.cells.toArray) 7 64 Try.underlying51 (by kernel_rfl) rfl (by decide) Row.cells_length row_one _ _ (by rfl) (by rfl) w.heap.size (.slice Ao no co) acc (⟨y0, y1, y2, y3, y4, y5, y6⟩ : Row) (by rfl) HOB.out w5.drew.heap.size 1 (by rfl) (RowAt.new' _ _ 45 [.int .i64 y0, .int .i64 y1, .int .i64 y2, .int .i64 y3, .int .i64 y4, .int .i64 y5, .string y6] rfl) HSL.out.1 HSL.out.2 (by have := HSW.out; simp at this ⊢; omega) (w5.drew.heap.size + 1) (by simp) ?_); intro g8 cap8 w8 o8 g8' l8 l9; have O8 := Lib.hid o8; have G8 := Lib.hid g8'; clear o8 g8' l8 l9)
              have HB8 := Lib.hid ((HBW.out.alloc HBW.out.size (.cells #[.int .i64 y0, .int .i64 y1, .int .i64 y2, .int .i64 y3, .int .i64 y4, .int .i64 y5, .string y6] 45)).grown G8.out (by have := HSW.out; simp at this ⊢; omega) fun q hq => (Own.base HOB.out q hq).1)
              have N8 := Lib.hid (show acc.length + 1 = (acc ++ [(⟨y0, y1, y2, y3, y4, y5, y6⟩ : Row)]).length by rw [List.length_append]; rfl)
              have A8 := Lib.hid (show acc ++ [(⟨y0, y1, y2, y3, y4, y5, y6⟩ : Row)] = ((ls.map LL.rows).take i).flatten ++ rows.take (k + 1) by rw [HXT.out, ← List.append_assoc, ← HACC.out])
              exact ⟨⟨k + 1, _, acc.length + 1, cap8, _, by omega, rfl, rfl, N8, A8, HE1, O8, HB8⟩, by show m - ((k : Int) + 1).toNat < m - (k : Int).toNat; omega⟩
            · obtain ⟨q, hq⟩ : ∃ q, q = k - 1 := ⟨_, rfl⟩
              have HQ := Lib.hid (show k = q + 1 by omega)
              have hbt : decide (0 < k) = true := decide_eq_true (by omega)
              have hbi : (0 : Int) < (k : Int) := by omega
              have hw1 : (k : Int) - 1 = (q : Int) := by omega
              have hw2 : IntKind.i64.wrap ((k : Int) - 1) = (q : Int) := by rw [hw1]; exact IntWalk.i64_in _ (by omega)
              have hw3 : IntKind.i64.wrap (q : Int) = (q : Int) := IntWalk.i64_in _ (by omega)
              have hq0 : (0 : Int) ≤ (q : Int) := by omega
              have hq1 : (q : Int) < (m : Int) := by omega
              obtain ⟨p, hp⟩ : ∃ p, rows[q]? = some p := ⟨_, List.getElem?_eq_getElem (by rw [← HRM.out]; omega)⟩
              obtain ⟨b2, off2, e2, hb2, p0, p1, p2, p3, p4, p5, p6⟩ := row_at (HIN.out.below (HB.out.trans (HB5.out.mono HB.out.size))) hp
              injection e2 with e2
              injection e2 with e3 e4
              subst e3 e4
              have HPR := Lib.hid (show rowAt' rows q = p by unfold rowAt'; rw [List.getD_eq_getElem?_getD, hp]; rfl)
              obtain ⟨z0, z1, z2, z3, z4, z5, z6⟩ := p
              simp only at p0 p1 p2 p3 p4 p5 p6
              have kl : w5.cell? ⟨b0, off + i, none⟩ = some (.slice (some ⟨b1, off1, none⟩) m c1) := ((HB.out.trans (HB5.out.mono HB.out.size)).cell (p := ⟨b0, off + i, none⟩) HB0.out).trans HKM.out
              obtain ⟨bf, hbf⟩ : ∃ z, z = before o ⟨y0, y1, y2, y3, y4, y5, y6⟩ ⟨z0, z1, z2, z3, z4, z5, z6⟩ := ⟨_, rfl⟩
              have HCV := Lib.hid hbf
              have hca := before7 o HO.out y0 y1 y2 y3 y4 y5 y6 z0 z1 z2 z3 z4 z5 z6
              rw [← hbf] at hca
              have HCA := Lib.hid hca
              clear hz hq hp hbf hca
              go_wp2_with fail
              refine wp_region_still_tail 13 (by kernel_rfl) (by kernel_rfl) ?_
              simp only [List.take_succ_cons, List.take_zero, List.drop_succ_cons, List.drop_zero]
              repeat still_step
              refine wpStill_nil ?_
              change wpList _ _ _ _ _ w5.drew
              clear p0 p1 p2 p3 p4 p5 p6 hxc hw1 hw2 hw3 kl
              go_wp2_with fail
              refine (HCA.out _).mono ?_
              rintro e w6 ⟨rfl, b6⟩
              have HB6 := Lib.hid (HB5.out.drew.trans (b6.mono HB5.out.size))
              have BX6 := Lib.hid (BX5.out.drew.below b6)
              clear b6
              cases bf with
              | true =>
                have HEQ := Lib.hid (show errAt o rows k = 115 by
                  unfold errAt
                  rw [HXR.out, ← HKV.out, if_neg (by decide), if_pos ⟨by have := HQ.out; omega, by rw [show k - 1 = q by have := HQ.out; omega, HPR.out]; exact HCV.out.symm⟩])
                go_wp2_with fail
                go_ret2
                have hr : res = 115 := by
                  rw [HRES.out]
                  exact chk_hit (by rw [List.length_map, HN.out]; exact hlt) HLD.out HZ.out (by rw [← HRM.out]; exact hkm) HE.out HEQ.out (by decide)
                rw [hr]
                exact ⟨fun _ => ⟨rfl, HB.out.trans (HB6.out.mono HB.out.size)⟩, fun h => by cases h⟩
              | false =>
                have HE1 := Lib.hid (errs_next HE.out (show errAt o rows k = 0 by
                  unfold errAt
                  rw [HXR.out, ← HKV.out, if_neg (by decide), if_neg (fun h => by
                    have h2 := h.2
                    rw [show k - 1 = q by have := HQ.out; omega, HPR.out, ← HCV.out] at h2
                    cases h2)]))
                have hxc := BX6.out.cell
                have HBW := Lib.hid (HB.out.trans (HB6.out.mono HB.out.size))
                have HOW5 := Lib.hid (show Own w6 w.heap.size 45 7 Row.cells (.slice Ao no co) acc from Own.below HOW.out HB6.out)
                have HOB := Lib.hid (show Own (w6.alloc (.cells #[.int .i64 y0, .int .i64 y1, .int .i64 y2, .int .i64 y3, .int .i64 y4, .int .i64 y5, .string y6] 45)) w.heap.size 45 7 Row.cells (.slice Ao no co) acc from HOW5.out.alloc _)
                have HLO := Lib.hid (show acc.length = no from HNO.out.symm)
                have HSL := Lib.hid (show acc.length + 1 ≤ maxLen ∧ (acc.length + 1) * 64 ≤ 140737488355328 by rw [HLO.out]; have := HNT.out; unfold maxLen; omega)
                have HSW := Lib.hid (show w.heap.size ≤ w6.heap.size from HBW.out.size)
                go_wp2_with (at_builtin; go_loud (refine push_list Row.cells 45 51 45 (.agg Row.zero.cells.toArray) 7 64 Try.underlying51 (by kernel_rfl) rfl (by decide) Row.cells_length row_one _ _ (by rfl) (by rfl) w.heap.size (.slice Ao no co) acc (⟨y0, y1, y2, y3, y4, y5, y6⟩ : Row) (by rfl) HOB.out w6.heap.size 1 (by rfl) (RowAt.new' _ _ 45 [.int .i64 y0, .int .i64 y1, .int .i64 y2, .int .i64 y3, .int .i64 y4, .int .i64 y5, .string y6] rfl) HSL.out.1 HSL.out.2 (by have := HSW.out; simp at this ⊢; omega) (w6.heap.size + 1) (by simp) ?_); intro g8 cap8 w8 o8 g8' l8 l9; have O8 := Lib.hid o8; have G8 := Lib.hid g8'; clear o8 g8' l8 l9)
                have HB8 := Lib.hid ((HBW.out.alloc HBW.out.size (.cells #[.int .i64 y0, .int .i64 y1, .int .i64 y2, .int .i64 y3, .int .i64 y4, .int .i64 y5, .string y6] 45)).grown G8.out (by have := HSW.out; simp at this ⊢; omega) fun q hq => (Own.base HOB.out q hq).1)
                have N8 := Lib.hid (show acc.length + 1 = (acc ++ [(⟨y0, y1, y2, y3, y4, y5, y6⟩ : Row)]).length by rw [List.length_append]; rfl)
                have A8 := Lib.hid (show acc ++ [(⟨y0, y1, y2, y3, y4, y5, y6⟩ : Row)] = ((ls.map LL.rows).take i).flatten ++ rows.take (k + 1) by rw [HXT.out, ← List.append_assoc, ← HACC.out])
                exact ⟨⟨k + 1, _, acc.length + 1, cap8, _, by omega, rfl, rfl, N8, A8, HE1, O8, HB8⟩, by show m - ((k : Int) + 1).toNat < m - (k : Int).toNat; omega⟩
        · obtain rfl : m = k := by omega
          go_wp2_with fail
          exact ⟨⟨i + 1, Ao, no, co, acc, by omega, rfl, rfl, HNO, Lib.hid (by rw [flat_take HLA.out, HACC.out, HRM.out, List.take_length]), Lib.hid (fun j hj => by
            by_cases e : j = i
            · rw [e, HLD.out]
              unfold listErr
              rw [← HRM.out]
              exact firstI_zero HE.out
            · exact HZ.out j (by omega)), HOW, HB⟩, by show n - ((i : Int) + 1).toNat < n - (i : Int).toNat; omega⟩
    · obtain rfl : n = i := by omega
      have hr : res = 0 := by
        rw [HRES.out]
        unfold chk
        rw [List.length_map, HN.out]
        exact firstI_zero HZ.out
      have HACC2 := Lib.hid (show acc = (ls.map LL.rows).flatten by rw [HACC.out, List.take_of_length_le (by rw [List.length_map, HN.out]; exact Nat.le_refl _)])
      have HNT := Lib.hid (show acc.length = no ∧ no < 16777216 by
        refine ⟨HNO.out.symm, ?_⟩
        rw [HNO.out, HACC2.out, ← HT.out]
        exact ht)
      subst hr
      have HBIG := Lib.hid (Own.big HOW.out)
      go_wp2_with fail
      refine (refsorted_any o HO.out no Ao co acc wr HNT.out.1 HNT.out.2 (Own.rd HOW.out Row.cells_length) (fun e => by
        rcases HBIG.out.2.2.2 with ⟨-, -, h⟩ | ⟨g, h⟩
        · exact h
        · rw [e] at h; cases h) HBIG.out.2.1 HBIG.out.2.2.1).mono ?_
      rintro e w6 ⟨A6, c6, out, rfl, s6, o6, b6⟩
      have HS6 := Lib.hid s6
      have HO6 := Lib.hid o6
      have HB6 := Lib.hid b6
      clear s6 o6 b6
      go_wp2_with fail
      go_ret2
      refine ⟨fun h => absurd rfl h, fun _ => ⟨_, out, rfl, ?_, Own.mono HO6.out HB.out.size, HB.out.trans (HB6.out.mono HB.out.size)⟩⟩
      rw [← HACC2.out]
      exact HS6.out
end Go.Proofs.Ytgcfpepaapdjoaa
