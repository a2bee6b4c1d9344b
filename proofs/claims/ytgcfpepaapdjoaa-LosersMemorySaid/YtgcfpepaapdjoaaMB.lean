/- Lists of lists of rows, read; and what the check of them says. -/
import Derived.Test.YtgcfpepaapdjoaaMA
import Derived.Test.YtgcfpepaapdjoaaRW
import Derived.Test.YtgcfpepaapdjoaaX
import Derived.Test.YtgcfpepaapdjoaaOpen
import Derived.IntWalk
namespace Go.Proofs.Ytgcfpepaapdjoaa
set_option linter.unusedVariables false
set_option linter.unusedSimpArgs false
open Go.RowKit

/-- A list as a slice. -/
structure LL where
  adr : Option Addr
  cap : Nat
  rows : List Row
def LL.val (l : LL) : Value := .slice l.adr l.rows.length l.cap
def LL.cells (l : LL) : List Value := [l.val]
theorem LL.len (l : LL) : l.cells.length = 1 := rfl
/-- A slice of slices of rows that may be read. -/
structure ListsAt (w : World) (A : Option Addr) (ls : List LL) : Prop where
  outer : SliceRd w A 1 LL.cells ls
  inner : ∀ l ∈ ls, SliceRd w l.adr 7 Row.cells l.rows
theorem ListsAt.below {w w' : World} {A : Option Addr} {ls : List LL} (h : ListsAt w A ls) (hb : Below w.heap.size w w') : ListsAt w' A ls := ⟨h.outer.below hb, fun l hl => (h.inner l hl).below hb⟩
theorem ListsAt.at {w : World} {A : Option Addr} {ls : List LL} (h : ListsAt w A ls) {i : Nat} {l : LL} (hl : ls[i]? = some l) : ∃ b off, A = some ⟨b, off, none⟩ ∧ w.cell? ⟨b, off + i, none⟩ = some l.val ∧ SliceRd w l.adr 7 Row.cells l.rows := by
  obtain ⟨b, off, e, hb, hc⟩ := h.outer.at hl
  have h0 := hc 0 (by omega)
  rw [Nat.mul_one, Nat.add_zero] at h0
  exact ⟨b, off, e, h0, h.inner l (List.mem_of_getElem? hl)⟩
/-- A row of a list that may be read, cell by cell. -/
theorem row_at {w : World} {A : Option Addr} {rows : List Row} (h : SliceRd w A 7 Row.cells rows) {i : Nat} {x : Row} (hx : rows[i]? = some x) :
    ∃ b off, A = some ⟨b, off, none⟩ ∧ b < w.heap.size ∧ w.cell? ⟨b, off + i * 7, none⟩ = some (.int .i64 x.kind) ∧ w.cell? ⟨b, off + i * 7 + 1, none⟩ = some (.int .i64 x.time) ∧ w.cell? ⟨b, off + i * 7 + 2, none⟩ = some (.int .i64 x.seq) ∧ w.cell? ⟨b, off + i * 7 + 3, none⟩ = some (.int .i64 x.index) ∧ w.cell? ⟨b, off + i * 7 + 4, none⟩ = some (.int .i64 x.frm) ∧ w.cell? ⟨b, off + i * 7 + 5, none⟩ = some (.int .i64 x.to) ∧ w.cell? ⟨b, off + i * 7 + 6, none⟩ = some (.string x.body) := by
  obtain ⟨b, off, e, hb, hc⟩ := h.at hx
  exact ⟨b, off, e, hb, hc 0 (by omega), hc 1 (by omega), hc 2 (by omega), hc 3 (by omega), hc 4 (by omega), hc 5 (by omega), hc 6 (by omega)⟩

/-! ### The first error -/
def errAt (o : Int) (l : List Row) (i : Nat) : Int := if (rowAt' l i).ok = false then 90 else if 0 < i ∧ before o (rowAt' l i) (rowAt' l (i - 1)) = true then 115 else 0
def firstI (n : Nat) (f : Nat → Int) : Int := orI ((List.range n).map f)
def listErr (o : Int) (l : List Row) : Int := firstI l.length (errAt o l)
def chk (o : Int) (ls : List (List Row)) : Int := firstI ls.length fun i => listErr o (ls.getD i [])
theorem firstI_zero {n : Nat} {f : Nat → Int} (h : ∀ i, i < n → f i = 0) : firstI n f = 0 := by
  unfold firstI
  rw [orI_zeros n _ fun i hi => by simp [hi, h i hi], List.drop_eq_nil_of_le (by simp)]
  rfl
theorem firstI_hit {n k : Nat} {f : Nat → Int} (hk : k < n) (h : ∀ i, i < k → f i = 0) (hne : f k ≠ 0) : firstI n f = f k := by
  unfold firstI
  rw [orI_zeros k _ fun i hi => by simp [show i < n by omega, h i hi], List.drop_eq_getElem_cons (by simpa using hk)]
  simp [orI, hne]
theorem firstI_all {n : Nat} {f : Nat → Int} (h : firstI n f = 0) : ∀ i, i < n → f i = 0 := by
  intro i
  induction i using Nat.strongRecOn with
  | _ i ih =>
    intro hi
    by_cases h0 : f i = 0
    · exact h0
    · rw [firstI_hit hi (fun j hj => ih j hj (by omega)) h0] at h
      exact h
theorem errAt_row {o : Int} {l : List Row} (h : listErr o l = 0) {i : Nat} (hi : i < l.length) : (rowAt' l i).ok = true ∧ (0 < i → before o (rowAt' l i) (rowAt' l (i - 1)) = false) := by
  have h1 := firstI_all h i hi
  unfold errAt at h1
  split at h1
  · cases h1
  · rename_i h2
    split at h1
    · cases h1
    · rename_i h3
      refine ⟨by simpa using h2, fun h0 => ?_⟩
      cases e : before o (rowAt' l i) (rowAt' l (i - 1)) with
      | false => rfl
      | true => exact absurd ⟨h0, e⟩ h3
theorem up_of {o : Int} {l : List Row} (h : listErr o l = 0) : Up o l := by
  intro i x y hx hy
  obtain ⟨hi, rfl⟩ := List.getElem?_eq_some_iff.1 hx
  obtain ⟨hj, rfl⟩ := List.getElem?_eq_some_iff.1 hy
  have h1 := (errAt_row h hj).2 (by omega)
  have e1 := rowAt'_some hi
  have e2 := rowAt'_some hj
  rw [List.getElem?_eq_getElem hi] at e1
  rw [List.getElem?_eq_getElem hj] at e2
  injection e1 with e1
  injection e2 with e2
  rw [e1, e2]
  simpa using h1
theorem chk_list {o : Int} {ls : List (List Row)} (h : chk o ls = 0) {l : List Row} (hl : l ∈ ls) : listErr o l = 0 := by
  obtain ⟨i, hi⟩ := List.mem_iff_getElem?.1 hl
  have := firstI_all h i (List.getElem?_eq_some_iff.1 hi).1
  rw [List.getD_eq_getElem?_getD, hi] at this
  exact this

theorem chk_hit {o : Int} {ls : List (List Row)} {i : Nat} {rows : List Row} (hi : i < ls.length) (hr : ls.getD i [] = rows) (hz : ∀ j, j < i → listErr o (ls.getD j []) = 0) {k : Nat} (hk : k < rows.length) (he : ∀ j, j < k → errAt o rows j = 0) {e : Int} (hx : errAt o rows k = e) (hne : e ≠ 0) : chk o ls = e := by
  have h1 : listErr o rows = e := by
    unfold listErr
    rw [firstI_hit hk he (by rw [hx]; exact hne), hx]
  have h2 : (fun i => listErr o (ls.getD i [])) i = e := by simp only; rw [hr, h1]
  unfold chk
  exact (firstI_hit (f := fun i => listErr o (ls.getD i [])) hi hz (fun h0 => hne (h2.symm.trans h0))).trans h2
theorem errs_next {o : Int} {rows : List Row} {k : Nat} (he : ∀ j, j < k → errAt o rows j = 0) (hx : errAt o rows k = 0) : ∀ j, j < k + 1 → errAt o rows j = 0 := fun j hj => by
  by_cases e : j = k
  · rw [e]; exact hx
  · exact he j (by omega)

set_option maxRecDepth 100000 in
set_option maxHeartbeats 3200000 in
theorem check_any (o : Int) (ho : o = 1 ∨ o = 2) (A : Option Addr) (n c : Nat) (ls : List LL) (w : World) (hn : ls.length = n) (hm : n ≤ 64) (H : ListsAt w A ls) (hl : ∀ l ∈ ls, l.rows.length ≤ maxLen) :
    Calls Try.prog 32 #[.int .i64 o, .slice A n c] w fun e w' => e = .returned (.int .i64 (chk o (ls.map LL.rows))) ∧ Below w.heap.size w w' := by
  have HN := Lib.hid hn
  have HH := Lib.hid H
  have HL := Lib.hid hl
  have HO := Lib.hid ho
  obtain ⟨res, hres⟩ : ∃ z, z = chk o (ls.map LL.rows) := ⟨_, rfl⟩
  rw [← hres]
  have HRES := Lib.hid hres
  have HAT := Lib.hid (show ∀ i l, ls[i]? = some l → (ls.map LL.rows).getD i [] = l.rows from fun i l h => by rw [List.getD_eq_getElem?_getD, List.getElem?_map, h]; rfl)
  clear hn H hl ho hres
  go_enter Try.func32, Try.ntmps32
  go_wp2_with fail
  go_loopw [11] (fun ix wr => ∃ i : Nat, i ≤ n ∧ ix = .int .i64 i ∧ Hid (∀ j, j < i → listErr o ((ls.map LL.rows).getD j []) = 0) ∧ Hid (Below w.heap.size w wr)) (fun ix _ => n - (intOf ix).toNat)
  case atStart => exact ⟨0, by omega, rfl, Lib.hid (fun j hj => by omega), Lib.hid (Below.refl _ _)⟩
  case round =>
    obtain ⟨i, hi, rfl, HZ, HB⟩ := hrel
    by_cases hlt : i < n
    · obtain ⟨l, hl⟩ : ∃ l, ls[i]? = some l := ⟨_, List.getElem?_eq_getElem (by rw [HN.out]; exact hlt)⟩
      obtain ⟨b0, off, rfl, k0, hin⟩ := (HH.out.below HB.out).at hl
      have HIN := Lib.hid hin
      have HLM := Lib.hid (HL.out l (List.mem_of_getElem? hl))
      have HLA := Lib.hid (HAT.out i l hl)
      obtain ⟨A1, c1, rows⟩ := l
      obtain ⟨m, hrm⟩ : ∃ m, m = rows.length := ⟨_, rfl⟩
      have HRM := Lib.hid hrm
      have hmx : m ≤ maxLen := by rw [hrm]; exact HLM.out
      simp only [LL.val] at k0
      rw [← hrm] at k0
      unfold maxLen at hmx
      have hi0 : (0 : Int) ≤ (i : Int) := by omega
      have hi1 : (i : Int) < (n : Int) := by omega
      clear hl hin hrm
      go_wp2_with fail
      obtain ⟨wo, rfl⟩ : ∃ wo : World, wo = wr := ⟨_, rfl⟩
      go_loopw [17] (fun ix wi => ∃ k : Nat, k ≤ m ∧ ix = .int .i64 k ∧ Hid (∀ j, j < k → errAt o rows j = 0) ∧ Hid (Below w.heap.size w wi) ∧ Hid (Below wo.heap.size wo wi)) (fun ix _ => m - (intOf ix).toNat)
      case atStart => exact ⟨0, by omega, rfl, Lib.hid (fun j hj => by omega), HB, Lib.hid (Below.refl _ _)⟩
      case round =>
        obtain ⟨k, hk, rfl, HE, HB2, HBI⟩ := hrel
        clear k0 HB
        by_cases hkm : k < m
        · obtain ⟨x, hx⟩ : ∃ x, rows[k]? = some x := ⟨_, List.getElem?_eq_getElem (by rw [← HRM.out]; exact hkm)⟩
          obtain ⟨b1, off1, rfl, hb1, x0, x1, x2, x3, x4, x5, x6⟩ := row_at (HIN.out.below HBI.out) hx
          have HXR := Lib.hid (show rowAt' rows k = x by unfold rowAt'; rw [List.getD_eq_getElem?_getD, hx]; rfl)
          have hk0 : (0 : Int) ≤ (k : Int) := by omega
          have hk1 : (k : Int) < (m : Int) := by omega
          obtain ⟨y0, y1, y2, y3, y4, y5, y6⟩ := x
          simp only at x0 x1 x2 x3 x4 x5 x6
          have HBX := Lib.hid ((Below.refl wr.heap.size wr).alloc (Nat.le_refl _) (.cells #[.int .i64 y0, .int .i64 y1, .int .i64 y2, .int .i64 y3, .int .i64 y4, .int .i64 y5, .string y6] 29))
          have BX := Lib.hid (RowAt.new wr 29 [.int .i64 y0, .int .i64 y1, .int .i64 y2, .int .i64 y3, .int .i64 y4, .int .i64 y5, .string y6])
          obtain ⟨kv, hkv⟩ : ∃ z, z = Row.ok ⟨y0, y1, y2, y3, y4, y5, y6⟩ := ⟨_, rfl⟩
          have HKV := Lib.hid hkv
          clear hx hkv
          go_wp2_with fail
          refine (valid_any ⟨y0, y1, y2, y3, y4, y5, y6⟩ _).mono ?_
          rw [← HKV.out]
          rintro e w5 ⟨rfl, b5⟩
          have HB5 := Lib.hid (HBX.out.trans (b5.mono (by simp)))
          have BX5 := Lib.hid (BX.out.below b5)
          clear b5 x0 x1 x2 x3 x4 x5 x6
          cases kv with
          | false =>
            go_wp2_with fail
            go_ret
            refine ⟨ret_int ?_, HB2.out.trans (HB5.out.mono HB2.out.size)⟩
            rw [HRES.out]
            exact (chk_hit (by rw [List.length_map, HN.out]; exact hlt) HLA.out HZ.out (by rw [← HRM.out]; exact hkm) HE.out (by unfold errAt; rw [HXR.out, ← HKV.out, if_pos rfl]) (by decide)).symm
          | true =>
            have hxc := BX5.out.cell
            by_cases hz : k = 0
            · have hb0 : decide (0 < k) = false := decide_eq_false (by omega)
              have hb1 : ¬ (0 : Int) < (k : Int) := by omega
              have HE1 := Lib.hid (errs_next HE.out (by unfold errAt; rw [HXR.out, ← HKV.out, if_neg (by decide), if_neg (by omega)]))
              clear hz
              go_wp2_with fail
              go_region
              go_wp2_with fail
              exact ⟨⟨k + 1, by omega, rfl, HE1, Lib.hid (HB2.out.trans (HB5.out.mono HB2.out.size)).drew, Lib.hid (HBI.out.trans (HB5.out.mono HBI.out.size)).drew⟩, by show m - ((k : Int) + 1).toNat < m - (k : Int).toNat; omega⟩
            · obtain ⟨q, hq⟩ : ∃ q, q = k - 1 := ⟨_, rfl⟩
              have HQ := Lib.hid (show k = q + 1 by omega)
              have hbt : decide (0 < k) = true := decide_eq_true (by omega)
              have hbi : (0 : Int) < (k : Int) := by omega
              have hw1 : (k : Int) - 1 = (q : Int) := by omega
              have hw2 : IntKind.i64.wrap ((k : Int) - 1) = (q : Int) := by rw [hw1]; exact IntWalk.i64_in _ (by omega)
              have hw3 : IntKind.i64.wrap (q : Int) = (q : Int) := IntWalk.i64_in _ (by omega)
              have hq0 : (0 : Int) ≤ (q : Int) := by omega
              have hq1 : (q : Int) < (m : Int) := by omega
              obtain ⟨p, hp⟩ : ∃ p, rows[q]? = some p := ⟨_, List.getElem?_eq_getElem (by rw [← HRM.out]; omega)⟩
              obtain ⟨b2, off2, e2, hb2, p0, p1, p2, p3, p4, p5, p6⟩ := row_at (HIN.out.below (HBI.out.trans (HB5.out.mono HBI.out.size))) hp
              injection e2 with e2
              injection e2 with e3 e4
              subst e3 e4
              have HPR := Lib.hid (show rowAt' rows q = p by unfold rowAt'; rw [List.getD_eq_getElem?_getD, hp]; rfl)
              obtain ⟨z0, z1, z2, z3, z4, z5, z6⟩ := p
              simp only at p0 p1 p2 p3 p4 p5 p6
              obtain ⟨cv, hcv⟩ : ∃ z, z = cmpRow o ⟨y0, y1, y2, y3, y4, y5, y6⟩ ⟨z0, z1, z2, z3, z4, z5, z6⟩ := ⟨_, rfl⟩
              have HCV := Lib.hid hcv
              have hca := cmp_any o HO.out ⟨y0, y1, y2, y3, y4, y5, y6⟩ ⟨z0, z1, z2, z3, z4, z5, z6⟩
              rw [← hcv] at hca
              have HCA := Lib.hid hca
              clear hz hq hp hcv hca
              go_wp2_with fail
              refine wp_region_still_tail 10 (by kernel_rfl) (by kernel_rfl) ?_
              simp only [List.take_succ_cons, List.take_zero, List.drop_succ_cons, List.drop_zero]
              repeat still_step
              refine wpStill_nil ?_
              change wpList _ _ _ _ _ w5.drew
              clear p0 p1 p2 p3 p4 p5 p6 hxc hw1 hw2 hw3
              go_wp2_with fail
              refine (HCA.out _).mono ?_
              rintro e w6 ⟨rfl, b6⟩
              have HB6 := Lib.hid (HB5.out.drew.trans (b6.mono HB5.out.size))
              clear b6
              by_cases hneg : cv < 0
              · have HEQ := Lib.hid (show errAt o rows k = 115 by
                  unfold errAt
                  rw [HXR.out, ← HKV.out, if_neg (by decide), if_pos ⟨by have := HQ.out; omega, by rw [show k - 1 = q by have := HQ.out; omega, HPR.out]; unfold before; rw [← HCV.out]; exact decide_eq_true hneg⟩])
                go_wp2_with fail
                go_ret
                refine ⟨ret_int ?_, HB2.out.trans (HB6.out.mono HB2.out.size)⟩
                rw [HRES.out]
                exact (chk_hit (by rw [List.length_map, HN.out]; exact hlt) HLA.out HZ.out (by rw [← HRM.out]; exact hkm) HE.out HEQ.out (by decide)).symm
              · have HE1 := Lib.hid (errs_next HE.out (show errAt o rows k = 0 by
                  unfold errAt
                  rw [HXR.out, ← HKV.out, if_neg (by decide), if_neg (fun h => by
                    have h2 := h.2
                    rw [show k - 1 = q by have := HQ.out; omega, HPR.out] at h2
                    unfold before at h2
                    rw [← HCV.out] at h2
                    exact hneg (of_decide_eq_true h2))]))
                go_wp2_with fail
                exact ⟨⟨k + 1, by omega, rfl, HE1, Lib.hid (HB2.out.trans (HB6.out.mono HB2.out.size)), Lib.hid (HBI.out.trans (HB6.out.mono HBI.out.size))⟩, by show m - ((k : Int) + 1).toNat < m - (k : Int).toNat; omega⟩
        · obtain rfl : m = k := by omega
          go_wp2_with fail
          exact ⟨⟨i + 1, by omega, rfl, Lib.hid (fun j hj => by
            by_cases e : j = i
            · rw [e, HLA.out]
              unfold listErr
              rw [← HRM.out]
              exact firstI_zero HE.out
            · exact HZ.out j (by omega)), HB2⟩, by show n - ((i : Int) + 1).toNat < n - (i : Int).toNat; omega⟩
    · obtain rfl : n = i := by omega
      go_wp2_with fail
      go_ret
      refine ⟨ret_int ?_, HB.out⟩
      rw [HRES.out]
      unfold chk
      rw [List.length_map, HN.out]
      exact (firstI_zero HZ.out).symm
end Go.Proofs.Ytgcfpepaapdjoaa
