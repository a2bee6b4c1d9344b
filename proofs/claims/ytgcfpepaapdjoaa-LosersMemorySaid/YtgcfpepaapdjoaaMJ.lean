/- Merge is the document's: what the check does. -/
import Derived.Test.YtgcfpepaapdjoaaMI
namespace Go.Proofs.Ytgcfpepaapdjoaa
set_option linter.unusedVariables false
set_option linter.unusedSimpArgs false
open Go.RowKit

theorem rows_at {xs ls : List LL} (h : xs.map LL.rows = ls.map LL.rows) {i : Nat} {l : LL} (hl : ls[i]? = some l) : ∃ x, xs[i]? = some x ∧ x.rows = l.rows := by
  have h1 : (ls.map LL.rows)[i]? = some l.rows := by rw [List.getElem?_map, hl]; rfl
  rw [← h, List.getElem?_map, Option.map_eq_some_iff] at h1
  exact h1
theorem own_none29 (w : World) : Own (w.alloc (.cells #[] 29)) w.heap.size 29 7 Row.cells (.slice (some ⟨w.heap.size, 0, none⟩) 0 0) [] :=
  RowAt.own (RowAt.new w 29 []) (Nat.le_refl _) rfl (by decide)
theorem take_next {ls xs : List LL} {i : Nat} {l x : LL} (h : xs.map LL.rows = (ls.map LL.rows).take i) (hl : ls[i]? = some l) (hx : x.rows = l.rows) : (xs ++ [x]).map LL.rows = (ls.map LL.rows).take (i + 1) := by
  obtain ⟨hi, rfl⟩ := List.getElem?_eq_some_iff.1 hl
  rw [List.map_append, h, List.take_succ_eq_append_getElem (by simpa using hi)]
  simp [hx]
theorem one_len {ls : List LL} {l : LL} (h : l ∈ ls) : l.rows.length ≤ (ls.map LL.rows).flatten.length := by
  induction ls with
  | nil => cases h
  | cons x ls ih =>
    rw [List.map_cons, List.flatten_cons, List.length_append]
    rcases List.mem_cons.1 h with rfl | h
    · omega
    · have := ih h; omega
set_option maxRecDepth 100000 in
set_option maxHeartbeats 16000000 in
theorem merges_walk (o : Int) (A : Option Addr) (n cap : Nat) (ls : List LL) (w : World) (hn : ls.length = n) (hm : n ≤ 1048576) (H : ListsAt w A ls) (hz : ∀ l ∈ ls, l.adr = none → l.cap = 0) (ht : (ls.map LL.rows).flatten.length ≤ 1048576) :
    Calls Try.prog 6 #[.int .i64 o, .slice A n cap] w fun e w' => e = .returned (.bool true) ∧ Below w.heap.size w w' := by
  have HN := Lib.hid hn
  have HH := Lib.hid H
  have HZ := Lib.hid hz
  have HT := Lib.hid ht
  clear hn H hz ht
  go_enter Try.func6, Try.ntmps6
  go_wp2_with fail
  refine (anchor_any w).mono ?_
  rintro e w1 ⟨rfl, b1⟩
  have B1 := Lib.hid b1
  clear b1
  go_wp2_with fail
  go_loopw [22, 6, 5] (fun ix vw va wr => ∃ (i : Nat) (Aw Aa : Option Addr) (cw ca : Nat) (wants args : List LL), i ≤ n ∧ ix = .int .i64 i ∧ vw = .slice Aw i cw ∧ va = .slice Aa i ca ∧ Hid (LLOwn wr w.heap.size 51 45 (.slice Aw i cw) wants) ∧ Hid (LLOwn wr w.heap.size 50 29 (.slice Aa i ca) args) ∧ Hid (wants.map LL.rows = (ls.map LL.rows).take i) ∧ Hid (args.map LL.rows = (ls.map LL.rows).take i) ∧ Hid (Below w.heap.size w wr)) (fun ix _ _ _ => n - (intOf ix).toNat)
  case atStart => exact ⟨0, none, none, 0, 0, [], [], by omega, rfl, rfl, rfl, Lib.hid (LLOwn.nil _ _ _ _), Lib.hid (LLOwn.nil _ _ _ _), Lib.hid (by simp), Lib.hid (by simp), B1⟩
  case round =>
    clear B1
    obtain ⟨i, Aw, Aa, cw, ca, wants, args, hi, rfl, rfl, rfl, HW, HA, HWR, HAR, HB⟩ := hrel
    by_cases hlt : i < n
    · obtain ⟨l, hl⟩ : ∃ l, ls[i]? = some l := ⟨_, List.getElem?_eq_getElem (by rw [HN.out]; exact hlt)⟩
      obtain ⟨b0, off, rfl, k0, hin⟩ := (HH.out.below HB.out).at hl
      have HIN := Lib.hid hin
      have HLG := Lib.hid hl
      have HLZ := Lib.hid (HZ.out l (List.mem_of_getElem? hl))
      have HL1 := Lib.hid (one_len (List.mem_of_getElem? hl))
      obtain ⟨A1, c1, rows⟩ := l
      obtain ⟨m, hrm⟩ : ∃ m, m = rows.length := ⟨_, rfl⟩
      have HRM := Lib.hid hrm
      have hmx : m ≤ 1048576 := by rw [hrm]; exact Nat.le_trans HL1.out HT.out
      simp only [LL.val] at k0
      rw [← hrm] at k0
      have hi0 : (0 : Int) ≤ (i : Int) := by omega
      have hi1 : (i : Int) < (n : Int) := by omega
      clear hl hin hrm HL1
      go_wp2_with fail
      obtain ⟨wo, rfl⟩ : ∃ wo : World, wo = wr := ⟨_, rfl⟩
      go_loopw [28, 9] (fun ix vq wi => ∃ (k : Nat) (Aq : Option Addr) (cq : Nat), k ≤ m ∧ ix = .int .i64 k ∧ vq = .slice Aq k cq ∧ Hid (Own wi wo.heap.size 45 7 Row.cells (.slice Aq k cq) (rows.take k)) ∧ Hid (Below wo.heap.size wo wi)) (fun ix _ _ => m - (intOf ix).toNat)
      case atStart => exact ⟨0, none, 0, by omega, rfl, rfl, Lib.hid (by rw [List.take_zero]; exact Own.nil _ _ _ _ _), Lib.hid (Below.refl _ _)⟩
      case round =>
        clear k0
        obtain ⟨k, Aq, cq, hk, rfl, rfl, HQ, HBI⟩ := hrel
        obtain ⟨acc, hacc⟩ : ∃ z, z = rows.take k := ⟨_, rfl⟩
        rw [← hacc] at HQ
        have HACC := Lib.hid hacc
        clear hacc
        by_cases hkm : k < m
        · obtain ⟨x, hx⟩ : ∃ x, rows[k]? = some x := ⟨_, List.getElem?_eq_getElem (by rw [← HRM.out]; exact hkm)⟩
          obtain ⟨b1, off1, rfl, hb1, x0, x1, x2, x3, x4, x5, x6⟩ := row_at (HIN.out.below HBI.out) hx
          have HXT := Lib.hid (show rows.take (k + 1) = rows.take k ++ [x] by
            obtain ⟨h, e⟩ := List.getElem?_eq_some_iff.1 hx
            rw [List.take_succ_eq_append_getElem h, e])
          have hk0 : (0 : Int) ≤ (k : Int) := by omega
          have hk1 : (k : Int) < (m : Int) := by omega
          obtain ⟨y0, y1, y2, y3, y4, y5, y6⟩ := x
          simp only at x0 x1 x2 x3 x4 x5 x6
          have HBX := Lib.hid ((Below.refl wr.heap.size wr).alloc (Nat.le_refl _) (.cells #[.int .i64 y0, .int .i64 y1, .int .i64 y2, .int .i64 y3, .int .i64 y4, .int .i64 y5, .string y6] 29))
          clear hx
          go_wp2_with fail
          refine (plain7 y0 y1 y2 y3 y4 y5 y6 _).mono ?_
          rintro e w5 ⟨rfl, b5⟩
          have HB5 := Lib.hid (HBX.out.trans (b5.mono (by simp)))
          clear b5 x0 x1 x2 x3 x4 x5 x6 HBX
          have HQ5 := Lib.hid (Own.below HQ.out HB5.out)
          have HBI5 := Lib.hid (HBI.out.trans (HB5.out.mono HBI.out.size))
          have HLO := Lib.hid (show acc.length = k by rw [HACC.out, List.length_take, ← HRM.out]; omega)
          have HSL := Lib.hid (show acc.length + 1 ≤ maxLen ∧ (acc.length + 1) * 64 ≤ 140737488355328 by rw [HLO.out]; unfold maxLen; omega)
          have HSW := Lib.hid (show wo.heap.size ≤ w5.heap.size from HBI5.out.size)
          have HOB := Lib.hid (show Own (w5.alloc (.cells #[.int .i64 y0, .int .i64 y1, .int .i64 y2, .int .i64 y3, .int .i64 y4, .int .i64 y5, .string y6] 45)) wo.heap.size 45 7 Row.cells (.slice Aq k cq) acc from HQ5.out.alloc _)
          go_wp2_with (at_builtin; go_loud (refine push_list Row.cells 45 51 45 (.agg Row.zero.cells.toArray) 7 64 Try.underlying51 (by kernel_rfl) rfl (by decide) Row.cells_length row_one _ _ (by rfl) (by rfl) wo.heap.size (.slice Aq k cq) acc (⟨y0, y1, y2, y3, y4, y5, y6⟩ : Row) (by rfl) HOB.out w5.heap.size 1 (by rfl) (RowAt.new' _ _ 45 [.int .i64 y0, .int .i64 y1, .int .i64 y2, .int .i64 y3, .int .i64 y4, .int .i64 y5, .string y6] rfl) HSL.out.1 HSL.out.2 (by have := HSW.out; simp; omega) (w5.heap.size + 1) (by simp) ?_); intro g8 cap8 w8 o8 g8' l8 l9; have O8 := Lib.hid o8; have G8 := Lib.hid g8'; clear o8 g8' l8 l9)
          have HB8 := Lib.hid ((HBI5.out.alloc HBI5.out.size (.cells #[.int .i64 y0, .int .i64 y1, .int .i64 y2, .int .i64 y3, .int .i64 y4, .int .i64 y5, .string y6] 45)).grown G8.out (by have := HSW.out; simp; omega) fun q hq => (Own.base HOB.out q hq).1)
          rw [HLO.out, HACC.out, ← HXT.out] at O8
          rw [show acc.length + 1 = k + 1 by rw [HLO.out]]
          exact ⟨⟨k + 1, _, cap8, by omega, rfl, rfl, O8, HB8⟩, by show m - ((k : Int) + 1).toNat < m - (k : Int).toNat; omega⟩
        · obtain rfl : m = k := by omega
          obtain rfl : acc = rows := by rw [HACC.out, HRM.out, List.take_length]
          have HW2 := Lib.hid (HW.out.below HBI.out)
          have HA2 := Lib.hid (HA.out.below HBI.out)
          have HB2 := Lib.hid (HB.out.trans (HBI.out.mono HB.out.size))
          have HQ2 := Lib.hid (HQ.out.mono HB.out.size)
          have HRD2 := Lib.hid (HIN.out.below HBI.out)
          clear HW HA HB HQ HBI HIN HACC
          have HLW := Lib.hid (show wants.length = i by have h := congrArg List.length HWR.out; rw [List.length_map, List.length_take, List.length_map, HN.out] at h; omega)
          have HLA := Lib.hid (show args.length = i by have h := congrArg List.length HAR.out; rw [List.length_map, List.length_take, List.length_map, HN.out] at h; omega)
          have HLL := Lib.hid (show LL.cells ⟨Aq, cq, acc⟩ = [Value.slice Aq m cq] by unfold LL.cells LL.val; rw [HRM.out])
          have HLV := Lib.hid (show LL.val ⟨Aq, cq, acc⟩ = Value.slice Aq m cq by unfold LL.val; rw [HRM.out])
          have HSL := Lib.hid (show wants.length + 1 ≤ maxLen ∧ (wants.length + 1) * 24 ≤ 140737488355328 by rw [HLW.out]; unfold maxLen; omega)
          have HSW := Lib.hid (show w.heap.size ≤ wr.heap.size from HB2.out.size)
          have HWB := Lib.hid (show LLOwn (wr.alloc (.cells #[.slice Aq m cq] 51)) w.heap.size 51 45 (.slice Aw i cw) wants from HW2.out.below ((Below.refl _ _).alloc (Nat.le_refl _) _))
          have HBE := Lib.hid ((HB2.out.alloc HB2.out.size (.cells #[.slice Aq m cq] 51)))
          have HSL2 := Lib.hid (show ([] : List Row).length + acc.length ≤ maxLen ∧ (([] : List Row).length + acc.length) * 64 ≤ 140737488355328 by rw [← HRM.out]; simp; unfold maxLen; omega)
          have HSL3 := Lib.hid (show args.length + 1 ≤ maxLen ∧ (args.length + 1) * 24 ≤ 140737488355328 by rw [HLA.out]; unfold maxLen; omega)
          have HHB := Lib.hid (show Below wr.heap.size wr (wr.alloc (.cells #[.slice Aq m cq] 51)) from (Below.refl _ _).alloc (Nat.le_refl _) _)
          have HRE := Lib.hid (show Value.slice A1 m c1 = .slice A1 acc.length c1 by rw [HRM.out])
          have tok1 : True := trivial
          go_wp2_with (first
            | (at_builtin; have _t := tok1; refine push_list LL.cells 51 49 51 (.slice none 0 0) 1 24 Try.underlying49 (by kernel_rfl) rfl (by decide) LL.len ll_one _ _ (by rfl) (by rfl) w.heap.size (.slice Aw i cw) wants (⟨Aq, cq, acc⟩ : LL) (by rfl) HWB.out.outer wr.heap.size 1 (by rfl) (by rw [HLL.out]; exact RowAt.new' _ _ 51 [.slice Aq m cq] rfl) HSL.out.1 HSL.out.2 (by have := HSW.out; simp; omega) (wr.heap.size + 1) (by simp) ?_; clear _t tok1; intro g8 cap8 w8 o8 g8' l8 l9; have O8 := Lib.hid o8; have G8 := Lib.hid g8'; clear o8 g8' l8 l9; have HW8 := Lib.hid (HWB.out.snoc (x := ⟨Aq, cq, acc⟩) (by show Own _ _ 45 7 Row.cells (LL.val ⟨Aq, cq, acc⟩) acc; rw [HLV.out]; exact HQ2.out.below HHB.out) (by decide) G8.out O8.out); have HA8 := Lib.hid ((HA2.out.below HHB.out).far HWB.out.outer (by decide) (by decide) G8.out); have HB8 := Lib.hid (HBE.out.grown G8.out (by have := HSW.out; simp; omega) fun q hq => (Own.base HWB.out.outer q hq).1); have ON8 := Lib.hid (own_none29 w8); have HS8 := Lib.hid (HB8.out.size); have HRD8 := Lib.hid (show ReadAt (w8.alloc (.cells #[] 29)) Row.cells (.slice A1 m c1) acc by have h := SliceRd.read (cap := c1) (((HH.out.below (HB8.out.alloc HB8.out.size (.cells #[] 29))).inner _ (List.mem_of_getElem? HLG.out))) Row.cells_length HLZ.out; exact HRE.out.symm ▸ h))
            | (at_builtin; refine cat_list Row.cells 29 50 50 29 (.agg Row.zero.cells.toArray) 7 64 Try.underlying50 Try.underlying50 (by kernel_rfl) rfl (by decide) Row.cells_length row_one _ _ (by rfl) (by rfl) w8.heap.size (.slice (some ⟨w8.heap.size, 0, none⟩) 0 0) [] acc (by rfl) ON8.out (.slice A1 m c1) (by rfl) HRD8.out HSL2.out.1 HSL2.out.2 (by simp) ?_; intro v9 w9 o9 g9 l9; have O9 := Lib.hid (show Own w9 w8.heap.size 29 7 Row.cells v9 acc from o9); have hb9 := Below.grown (((Below.refl w8.heap.size w8).alloc (Nat.le_refl _) (.cells #[] 29))) g9 (by simp) (fun k hk => by simp [Value.ownBlock] at hk; omega); have HW9 := Lib.hid (HW8.out.below hb9); have HA9 := Lib.hid (HA8.out.below hb9); have HB9 := Lib.hid (HB8.out.trans (hb9.mono HB8.out.size)); clear o9 g9 l9 hb9; obtain ⟨A9, c9, hv9⟩ := own_forms O9.out; rw [← HRM.out] at hv9; subst hv9; have HLL9 := Lib.hid (show LL.cells ⟨A9, c9, acc⟩ = [Value.slice A9 m c9] by unfold LL.cells LL.val; rw [HRM.out]); have HAB := Lib.hid (show LLOwn (w9.alloc (.cells #[.slice A9 m c9] 50)) w.heap.size 50 29 (.slice Aa i ca) args from HA9.out.below ((Below.refl _ _).alloc (Nat.le_refl _) _)); have HWB9 := Lib.hid (show LLOwn (w9.alloc (.cells #[.slice A9 m c9] 50)) w.heap.size 51 45 (.slice (some ⟨g8, 0, none⟩) (wants.length + 1) cap8) _ from HW9.out.below ((Below.refl _ _).alloc (Nat.le_refl _) _)); have HOB9 := Lib.hid ((O9.out.mono HS8.out).below ((Below.refl w9.heap.size w9).alloc (Nat.le_refl _) (.cells #[.slice A9 m c9] 50))); have HS9 := Lib.hid HB9.out.size)
            | (at_builtin; refine push_list LL.cells 50 48 50 (.slice none 0 0) 1 24 Try.underlying48 (by kernel_rfl) rfl (by decide) LL.len ll_one _ _ (by rfl) (by rfl) w.heap.size (.slice Aa i ca) args (⟨A9, c9, acc⟩ : LL) (by rfl) HAB.out.outer w9.heap.size 1 (by rfl) (by rw [HLL9.out]; exact RowAt.new' _ _ 50 [.slice A9 m c9] rfl) HSL3.out.1 HSL3.out.2 (by have := HS9.out; simp; omega) (w9.heap.size + 1) (by simp) ?_; intro g10 cap10 w10 o10 g10' l8 l9; have O10 := Lib.hid o10; have G10 := Lib.hid g10'; clear o10 g10' l8 l9))
          have HV9 := Lib.hid (show LL.val ⟨A9, c9, acc⟩ = Value.slice A9 m c9 by unfold LL.val; rw [HRM.out])
          have HW10 := Lib.hid (HWB9.out.far HAB.out.outer (by decide) (by decide) G10.out)
          have HA10 := Lib.hid (HAB.out.snoc (x := ⟨A9, c9, acc⟩) (by show Own _ _ 29 7 Row.cells (LL.val ⟨A9, c9, acc⟩) acc; rw [HV9.out]; exact HOB9.out) (by decide) G10.out O10.out)
          have HB10 := Lib.hid ((HB9.out.alloc HB9.out.size (.cells #[.slice A9 m c9] 50)).grown G10.out (by have := HS9.out; simp; omega) fun q hq => (Own.base HAB.out.outer q hq).1)
          have HWR1 := Lib.hid (take_next (x := ⟨Aq, cq, acc⟩) HWR.out HLG.out rfl)
          have HAR1 := Lib.hid (take_next (x := ⟨A9, c9, acc⟩) HAR.out HLG.out rfl)
          rw [HLW.out] at HW10
          rw [HLA.out] at HA10
          rw [show wants.length + 1 = i + 1 by rw [HLW.out], show args.length + 1 = i + 1 by rw [HLA.out]]
          exact ⟨⟨i + 1, _, _, cap8, cap10, _, _, by omega, rfl, rfl, rfl, HW10, HA10, HWR1, HAR1, HB10⟩, by show n - ((i : Int) + 1).toNat < n - (i : Int).toNat; omega⟩
    · obtain rfl : n = i := by omega
      have hwe : wants.map LL.rows = ls.map LL.rows := by rw [HWR.out, List.take_of_length_le (by rw [List.length_map, HN.out]; exact Nat.le_refl _)]
      have hae : args.map LL.rows = ls.map LL.rows := by rw [HAR.out, List.take_of_length_le (by rw [List.length_map, HN.out]; exact Nat.le_refl _)]
      have HWE := Lib.hid hwe
      have HAE := Lib.hid hae
      have hwl : wants.length = n := by have h := congrArg List.length hwe; rw [List.length_map, List.length_map, HN.out] at h; exact h
      have hal : args.length = n := by have h := congrArg List.length hae; rw [List.length_map, List.length_map, HN.out] at h; exact h
      have hm1 := merge_all o Aa n ca args wr hal HA.out.rd (fun l hl => Nat.le_trans (one_len hl) (by rw [hae]; have := HT.out; unfold maxLen; omega)) (by rw [hae]; have := HT.out; omega)
      have hm2 := fun w' (h : ListsAt w' Aw wants) => refmerge_all o Aw n cw wants w' hwl h (fun l hl => Nat.le_trans (one_len hl) (by rw [hwe]; have := HT.out; unfold maxLen; omega)) (by rw [hwe]; have := HT.out; omega)
      rw [hae] at hm1
      simp only [hwe] at hm2
      unfold MergePost at hm1 hm2
      obtain ⟨E, hE⟩ : ∃ z, z = mErr o n (ls.map LL.rows) := ⟨_, rfl⟩
      rw [← hE] at hm1 hm2
      have HM1 := Lib.hid hm1
      have HM2 := Lib.hid hm2
      clear hwe hae hwl hal hm1 hm2 hE HWR HAR
      go_wp2_with fail
      refine HM1.out.mono ?_
      rintro e w2 ⟨v, out, rfl, g2, o2, b2⟩
      obtain ⟨A2, c2, rfl⟩ := own_forms o2
      have HG2 := Lib.hid g2
      have HO2 := Lib.hid o2
      have HW2 := Lib.hid (HW.out.below b2)
      have HA2 := Lib.hid (HA.out.below b2)
      have HB2 := Lib.hid (HB.out.trans (b2.mono HB.out.size))
      clear g2 o2 b2
      obtain ⟨q, hq⟩ : ∃ z, z = (out.map Nm.row).length := ⟨_, rfl⟩
      have HQ := Lib.hid hq
      rw [← hq] at HO2 ⊢
      clear hq
      go_wp2_with fail
      refine (HM2.out _ HW2.out.rd).mono ?_
      rintro e w3 ⟨v3, out3, rfl, g3, o3, b3⟩
      obtain rfl : out = out3 := HG2.out.unique g3
      obtain ⟨A3, c3, rfl⟩ := own_forms o3
      have HO3 := Lib.hid o3
      have HR2 := Lib.hid ((Own.rd HO2.out Row.cells_length).below b3)
      have HR3 := Lib.hid (Own.rd HO3.out Row.cells_length)
      have HW3 := Lib.hid (HW2.out.below b3)
      have HA3 := Lib.hid (HA2.out.below b3)
      have HB3 := Lib.hid (HB2.out.trans (b3.mono HB2.out.size))
      have HQS := Lib.hid (show q ≤ 4611686018427387904 by have := HG2.out.length; have := HT.out; have := HQ.out; rw [List.length_map] at this; omega)
      rw [← HQ.out]
      clear g3 o3 b3
      have hee : (E != E) = false := by simp
      go_wp2_with fail
      refine (samerows_any (out.map Nm.row) q A2 A3 c2 c3 w3 HQ.out.symm HQS.out HR2.out HR3.out).mono ?_
      rintro e w4 ⟨rfl, b4⟩
      have HW4 := Lib.hid (HW3.out.below b4)
      have HA4 := Lib.hid (HA3.out.below b4)
      have HB4 := Lib.hid (HB3.out.trans (b4.mono HB3.out.size))
      clear b4
      have hnn : ((n : Int) != (n : Int)) = false := by simp
      go_wp2_with fail
      go_loopw [79] (fun ix wr => ∃ i : Nat, i ≤ n ∧ ix = .int .i64 i ∧ Hid (Below w4.heap.size w4 wr)) (fun ix _ => n - (intOf ix).toNat)
      case atStart => exact ⟨0, by omega, rfl, Lib.hid (Below.refl _ _)⟩
      case round =>
        obtain ⟨i, hi, rfl, HBL⟩ := hrel
        by_cases hlt : i < n
        · obtain ⟨l, hl⟩ : ∃ l, ls[i]? = some l := ⟨_, List.getElem?_eq_getElem (by rw [HN.out]; exact hlt)⟩
          obtain ⟨xa, hxa, era⟩ := rows_at HAE.out hl
          obtain ⟨xw, hxw, erw⟩ := rows_at HWE.out hl
          obtain ⟨ba, offa, rfl, ka, ina⟩ := (HA4.out.rd.below HBL.out).at hxa
          obtain ⟨bw, offw, rfl, kw, inw⟩ := (HW4.out.rd.below HBL.out).at hxw
          have HML := Lib.hid (one_len (List.mem_of_getElem? hl))
          obtain ⟨A1, c1, rows⟩ := l
          obtain ⟨Aa, ca', rowsa⟩ := xa
          obtain ⟨Aw, cw', rowsw⟩ := xw
          simp only at era erw
          subst era erw
          obtain ⟨m, hrm⟩ : ∃ m, m = rowsw.length := ⟨_, rfl⟩
          have HRM := Lib.hid hrm
          have HMS := Lib.hid (show m ≤ 4611686018427387904 by have := HML.out; have := HT.out; rw [hrm]; simp only at *; omega)
          have HIA := Lib.hid ina
          have HIW := Lib.hid inw
          simp only [LL.val] at ka kw
          rw [← hrm] at ka kw
          have hi0 : (0 : Int) ≤ (i : Int) := by omega
          have hi1 : (i : Int) < (n : Int) := by omega
          clear hl hxa hxw ina inw hrm HML
          go_wp2_with fail
          refine (samerows_any rowsw m Aa Aw ca' cw' wr HRM.out.symm HMS.out HIA.out HIW.out).mono ?_
          rintro e w5 ⟨rfl, b5⟩
          have HB5 := Lib.hid (HBL.out.trans (b5.mono HBL.out.size))
          clear b5
          go_wp2_with fail
          exact ⟨⟨i + 1, by omega, rfl, HB5⟩, by show n - ((i : Int) + 1).toNat < n - (i : Int).toNat; omega⟩
        · obtain rfl : n = i := by omega
          go_wp2_with fail
          go_ret
          exact ⟨rfl, HB4.out.trans (HBL.out.mono HB4.out.size)⟩
end Go.Proofs.Ytgcfpepaapdjoaa
