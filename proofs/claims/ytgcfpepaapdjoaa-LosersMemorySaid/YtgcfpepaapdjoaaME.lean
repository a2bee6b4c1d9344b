/- Merge, walked: over lists in order it gives the sorted whole. -/
import Derived.Test.YtgcfpepaapdjoaaMD
namespace Go.Proofs.Ytgcfpepaapdjoaa
set_option linter.unusedVariables false
set_option linter.unusedSimpArgs false
open Go.RowKit

theorem info29 : (Try.prog.info? 29).map (fun i => (i.zero, i.size, i.bytes)) = some (some (.agg Row.zero.cells.toArray), 7, 64) := by kernel_rfl
set_option maxRecDepth 100000 in
set_option maxHeartbeats 8000000 in
theorem merge_yes (o : Int) (ho : o = 1 ∨ o = 2) (A : Option Addr) (n c : Nat) (ls : List LL) (w : World) (hn : ls.length = n) (h1 : 1 ≤ n) (h2 : n ≤ 64) (H : ListsAt w A ls) (hl : ∀ l ∈ ls, l.rows.length ≤ maxLen) (hc : chk o (ls.map LL.rows) = 0) (tot : Nat) (htot : tot = (ls.map LL.rows).flatten.length) (ht : tot ≤ 2000000000000) :
    Calls Try.prog 19 #[.int .i64 o, .slice A n c] w fun e w' => ∃ v out, e = .returned (.tuple #[v, .int .i64 0]) ∧ IsSorted o (ls.map LL.rows).flatten out ∧ Own w' w.heap.size 29 7 Row.cells v (out.map Nm.row) ∧ Below w.heap.size w w' := by
  have HN := Lib.hid hn
  have HH := Lib.hid H
  have HL := Lib.hid hl
  have HO := Lib.hid ho
  have HC := Lib.hid hc
  have HT := Lib.hid htot
  have m2 := run_make_flat (P := Try.prog) natCell 0 32 3 _ 8 Try.underlying32 info3 rfl .i64 .i64 n (by omega) (by omega)
  generalize hX : ((List.replicate n 0).flatMap natCell).toArray = X at m2
  have HX := Lib.hid hX
  obtain ⟨L, hL⟩ : ∃ L, L = numsL 0 (ls.map LL.rows) := ⟨_, rfl⟩
  have HLL := Lib.hid hL
  have HLN := Lib.hid (show L.length = n by rw [hL, numsL_length, List.length_map, hn])
  have HMG := Lib.hid (show MG o (ls.map LL.rows).flatten [] L by rw [hL]; exact MG.start ho fun l hl => up_of (chk_list hc hl))
  have HAT := Lib.hid (show ∀ i l, ls[i]? = some l → (L.getD i []).map Nm.row = l.rows from fun i l h => by rw [hL, numsL_at, List.getD_eq_getElem?_getD, List.getElem?_map, h]; rfl)
  clear hn H hl ho hc htot hL hX
  go_enter Try.func19, Try.ntmps19
  go_wp2_with fail
  refine (tr_new o n w HO.out h1 h2).mono ?_
  rintro e w1 ⟨g, bs, bl, rfl, t1, b1, s1, s2, s3⟩
  have T1 := Lib.hid t1
  have B1 := Lib.hid b1
  have SS := Lib.hid (show w.heap.size ≤ g ∧ w.heap.size ≤ bs ∧ w.heap.size ≤ bl from ⟨s1, s2, s3⟩)
  clear t1 b1 s1 s2 s3
  go_wp2_with fail
  refine (check_any o HO.out A n c ls w1 HN.out h2 (HH.out.below B1.out) HL.out).mono ?_
  rw [HC.out]
  rintro e w2 ⟨rfl, b2⟩
  have T2 := Lib.hid (T1.out.below b2)
  have B2 := Lib.hid (B1.out.trans (b2.mono B1.out.size))
  clear b2 T1 B1
  go_wp2_with fail
  obtain ⟨gA, hgA⟩ : ∃ z, z = w2.heap.size := ⟨_, rfl⟩
  have HGA := Lib.hid hgA
  rw [← hgA]
  have R2 := Lib.hid (show RowAt (w2.alloc (.cells X 3)) gA 3 ((List.replicate n 0).flatMap natCell) by rw [← HX.out]; exact RowAt.new' _ _ 3 _ hgA)
  have F := Lib.hid (show Fix w g bs bl gA (gA + 1) from by
    have := T2.out.lt
    exact ⟨SS.out.1, SS.out.2.1, SS.out.2.2, by omega, by omega, by omega, by omega⟩)
  have ST := Lib.hid (show MSt w g bs bl gA (gA + 1) o L (ls.map LL.rows).flatten L [] (.slice none 0 0) (List.replicate n Src.zero) (List.replicate n 0) (w2.alloc (.cells X 3)) from
    ⟨T2.out.below ((Below.refl _ _).alloc (Nat.le_refl _) _), by have := Run.start L; rw [HLN.out] at this; exact this, HMG.out, R2.out, Own.nil _ _ _ _ _, B2.out.alloc B2.out.size _⟩)
  have SZ := Lib.hid (show gA + 1 ≤ (w2.alloc (.cells X 3)).heap.size by simp; omega)
  clear hgA T2 B2 R2 SS
  go_loopw [10] (fun vo wr => ∃ (Ao : Option Addr) (no co : Nat) (xs : List Src) (ats : List Nat) (rems : List (List Nm)) (out : List Nm), vo = .slice Ao no co ∧ Hid (no = out.length) ∧ Hid (MSt w g bs bl gA (gA + 1) o L (ls.map LL.rows).flatten rems out (.slice Ao no co) xs ats wr) ∧ Hid (gA + 1 ≤ wr.heap.size)) (fun vo _ => tot - lenV vo)
  case atStart => exact ⟨none, 0, 0, _, _, _, [], rfl, Lib.hid rfl, ST, SZ⟩
  case round =>
    clear ST SZ m2
    obtain ⟨Ao, no, co, xs, ats, rems, out, rfl, HNO, HS, HZ⟩ := hrel
    go_wp2_with fail
    refine (tr_waiting g bs bl o xs _ HS.out.tr).mono ?_
    rintro e w3 ⟨vw, rfl, ow, b3⟩
    obtain ⟨AW, cW, rfl⟩ := own_forms ow
    obtain ⟨W, hW⟩ : ∃ z, z = waitsTo xs xs.length := ⟨_, rfl⟩
    rw [← hW] at ow ⊢
    obtain ⟨nW, hnW⟩ : ∃ z, z = W.length := ⟨_, rfl⟩
    rw [← hnW] at ow ⊢
    obtain ⟨hw, hhw⟩ : ∃ z, z = wr.heap.size := ⟨_, rfl⟩
    rw [← hhw] at ow
    have HHW := Lib.hid hhw
    have OW := Lib.hid ow
    have HW := Lib.hid hW
    have HNW := Lib.hid hnW
    have S3 := Lib.hid (HS.out.below b3)
    have Z3 := Lib.hid (show gA + 1 ≤ w3.heap.size from Nat.le_trans HZ.out b3.size)
    have HWB := Lib.hid (show gA < hw by rw [hhw]; exact HZ.out)
    have HLW := Lib.hid (show nW ≤ 64 by rw [hnW, hW]; have := waitsTo_length xs xs.length; rw [HS.out.run.lx, HLN.out] at *; omega)
    have hw64 : nW ≤ 64 := HLW.out
    clear ow b3 hW hnW hhw HS HZ
    go_wp2_with fail
    go_loopw [38] (fun ix wi => ∃ (q : Nat) (xs : List Src) (ats : List Nat), q ≤ nW ∧ ix = .int .i64 q ∧ Hid (W.drop q = waitsTo xs xs.length) ∧ Hid (MSt w g bs bl gA (gA + 1) o L (ls.map LL.rows).flatten rems out (.slice Ao no co) xs ats wi) ∧ Hid (Own wi hw 3 1 natCell (.slice AW nW cW) W) ∧ Hid (gA + 1 ≤ wi.heap.size)) (fun ix _ => nW - (intOf ix).toNat)
    case atStart => exact ⟨0, xs, ats, by omega, rfl, by rw [List.drop_zero]; exact HW, S3, OW, Z3⟩
    case round =>
      clear S3 OW Z3
      obtain ⟨q, xs, ats, hq, rfl, HD, HS, HOW, HZ⟩ := hrel
      by_cases hqn : q < nW
      · obtain ⟨i, hwi⟩ : ∃ i, W[q]? = some i := ⟨_, List.getElem?_eq_getElem (by rw [← HNW.out]; exact hqn)⟩
        have hdq : W.drop q = i :: W.drop (q + 1) := by
          obtain ⟨hlt, e⟩ := List.getElem?_eq_some_iff.1 hwi
          rw [List.drop_eq_getElem_cons hlt, e]
        obtain ⟨hix, hi0, hnext⟩ := waits_head (HD.out.symm.trans hdq)
        have hin : i < n := by rw [HS.out.run.lx, HLN.out] at hix; exact hix
        have HI0 := Lib.hid hi0
        have HNX := Lib.hid hnext
        obtain ⟨AW', cW', eW, hWc⟩ := own_view HOW.out
        obtain ⟨gW, rfl, hgW, hcW⟩ : ∃ g, AW = some ⟨g, 0, none⟩ ∧ hw ≤ g ∧ wr.cell? ⟨g, q, none⟩ = some (.int .i64 (i : Nat)) := by
          obtain ⟨g, e, r⟩ := hWc q i hwi
          injection eW with e1 e2 e3
          exact ⟨g, e1.trans e, r⟩
        obtain ⟨l, hl⟩ : ∃ l, ls[i]? = some l := ⟨_, List.getElem?_eq_getElem (by rw [HN.out]; exact hin)⟩
        obtain ⟨b0, off, rfl, k0, hinn⟩ := (HH.out.below HS.out.low).at hl
        have HINN := Lib.hid hinn
        have HLM := Lib.hid (HL.out l (List.mem_of_getElem? hl))
        have HLIN := Lib.hid (List.mem_of_getElem? hl)
        have HLG := Lib.hid hl
        have HLA := Lib.hid (HAT.out i l hl)
        obtain ⟨A1, c1, rows⟩ := l
        obtain ⟨m, hrm⟩ : ∃ m, m = rows.length := ⟨_, rfl⟩
        have HRM := Lib.hid hrm
        have hmx : m ≤ maxLen := by rw [hrm]; exact HLM.out
        simp only [LL.val] at k0
        rw [← hrm] at k0
        unfold maxLen at hmx
        obtain ⟨a, ha⟩ : ∃ z, z = ats.getD i 0 := ⟨_, rfl⟩
        have HA := Lib.hid ha
        have ka := HS.out.arr.cell i
        rw [natCells, List.getElem?_map, List.getElem?_eq_getElem (by rw [HS.out.run.la, HLN.out]; exact hin)] at ka
        have e9 : ats[i]'(by rw [HS.out.run.la, HLN.out]; exact hin) = a := by rw [ha, List.getD_eq_getElem?_getD, List.getElem?_eq_getElem (by rw [HS.out.run.la, HLN.out]; exact hin)]; rfl
        rw [e9] at ka
        simp only [Option.map_some] at ka
        have HLR := Lib.hid (show (L.getD i []).length = m by have h := congrArg List.length HLA.out; rw [List.length_map] at h; exact h.trans hrm.symm)
        have ham : a ≤ m := by have := (HS.out.run.one i (by rw [HLN.out]; exact hin)).1; rw [← ha, HLR.out] at this; exact this
        have HQ1 := Lib.hid hwi
        have hi1 : (0 : Int) ≤ (i : Int) := by omega
        have hi2 : (i : Int) < (n : Int) := by omega
        have HDQ := Lib.hid hdq
        have HINL := Lib.hid (show i < L.length by rw [HLN.out]; exact hin)
        have HKA := Lib.hid (show wr.drew.cell? ⟨gA, i, none⟩ = some (.int .i64 (a : Nat)) from ka)
        clear hdq hix hi0 hnext hWc eW hl hinn hrm ha e9 hwi
        go_wp2_with fail
        refine wp_region_still_lit (by kernel_rfl) (by kernel_rfl) ?_
        change wpStill _ _ wr.drew _ _ _
        repeat still_step
        refine wpStill_nil ?_
        change _
        have HSD := Lib.hid (show MSt w g bs bl gA (gA + 1) o L (ls.map LL.rows).flatten rems out (.slice Ao no co) xs ats wr.drew from HS.out.below (Below.refl _ _).drew)
        have HOD := Lib.hid (show Own wr.drew hw 3 1 natCell (.slice (some ⟨gW, 0, none⟩) nW cW) W from HOW.out)
        have HZD := Lib.hid (show gA + 1 ≤ wr.drew.heap.size from HZ.out)
        clear ka k0 hcW HS HOW HZ
        by_cases heq : a = m
        · obtain rfl : a = m := heq
          go_wp2_with fail
          refine (tr_finish g bs bl o xs i _ HSD.out.tr).mono ?_
          rintro e w4 ⟨rfl, t4, u4⟩
          have e4 : finS xs i = xs.set i Src.fin := fin_at (by rw [HSD.out.run.lx]; exact HINL.out) HI0.out
          rw [e4] at t4
          have S4 := Lib.hid (HSD.out.tree F.out u4 t4 (HSD.out.run.fin HINL.out HI0.out (by rw [← HA.out]; exact HLR.out.symm)))
          have O4 := Lib.hid (HOD.out.turn u4 fun k hk => by
            have h8 := (Own.base HOD.out k hk).1
            exact F.out.three (by have := HWB.out; omega))
          have Z4 := Lib.hid (show gA + 1 ≤ w4.heap.size from Nat.le_trans HZD.out u4.size)
          have D4 := Lib.hid (show W.drop (q + 1) = waitsTo (xs.set i Src.fin) (xs.set i Src.fin).length from (HNX.out Src.fin (by decide)).symm)
          clear t4 u4 e4 HSD HOD HZD
          go_wp2_with fail
          exact ⟨⟨q + 1, _, _, by omega, rfl, D4, S4, O4, Z4⟩, by show nW - ((q : Int) + 1).toNat < nW - (q : Int).toNat; omega⟩
        · have hlt : a < m := by omega
          have hne1 : ((a : Int) == (m : Int)) = false := by rw [beq_eq_false_iff_ne]; omega
          have hne2 : (a == m) = false := by simpa using heq
          obtain ⟨x, hx⟩ : ∃ x, rows[a]? = some x := ⟨_, List.getElem?_eq_getElem (by rw [← HRM.out]; exact hlt)⟩
          obtain ⟨y, hy, hyr⟩ : ∃ y, (L.getD i [])[ats.getD i 0]? = some y ∧ y.row = x := by
            have h : (L.getD i []).map Nm.row = rows := HLA.out
            rw [← h, List.getElem?_map, Option.map_eq_some_iff] at hx
            rw [← HA.out]
            exact hx
          subst hyr
          have HY := Lib.hid hy
          obtain ⟨row, hrow⟩ : ∃ z, z = y.row := ⟨_, rfl⟩
          have HROW := Lib.hid hrow
          rw [← hrow] at hx
          obtain ⟨b1, off1, rfl, hb1, x0, x1, x2, x3, x4, x5, x6⟩ := row_at (SliceRd.below HINN.out (Below.refl _ _).drew) hx
          have HOK := Lib.hid (show row.ok = true by
            have h8 := (errAt_row (chk_list HC.out (List.mem_map.2 ⟨_, HLIN.out, rfl⟩)) (show a < rows.length by rw [← HRM.out]; exact hlt)).1
            unfold rowAt' at h8
            rw [List.getD_eq_getElem?_getD, hx] at h8
            exact h8)
          obtain ⟨y0, y1, y2, y3, y4, y5, y6⟩ := row
          simp only at x0 x1 x2 x3 x4 x5 x6
          have ha0 : (0 : Int) ≤ (a : Int) := by omega
          have ha1 : (a : Int) < (m : Int) := by omega
          obtain ⟨b9, off9, e9, k0, -⟩ := (HH.out.below HSD.out.low).at HLG.out
          injection e9 with e9
          injection e9 with e91 e92
          subst e91 e92
          simp only [LL.val] at k0
          rw [← HRM.out] at k0
          have ka := HKA.out
          clear hx hy hrow heq
          go_wp2_with fail
          refine wp_region_still_tail 12 (by kernel_rfl) (by kernel_rfl) ?_
          simp only [List.take_succ_cons, List.take_zero, List.drop_succ_cons, List.drop_zero]
          change wpStill _ _ wr.drew.drew _ _ _
          repeat still_step
          refine wpStill_nil ?_
          change wpList _ _ _ _ _ wr.drew.drew
          clear x0 x1 x2 x3 x4 x5 x6 k0 ka hne1 hne2
          have HSE := Lib.hid (HSD.out.below (Below.refl _ _).drew)
          have HOE := Lib.hid (show Own wr.drew.drew hw 3 1 natCell (.slice (some ⟨gW, 0, none⟩) nW cW) W from HOD.out)
          have HZE := Lib.hid (show gA + 1 ≤ wr.drew.drew.heap.size from HZD.out)
          clear HSD HOD HZD
          go_wp2_with fail
          refine (tr_feed g bs bl o xs i ⟨y0, y1, y2, y3, y4, y5, y6⟩ _ HSE.out.tr).mono ?_
          rintro e w4 ⟨rfl, t4, u4⟩
          obtain ⟨e4, e5⟩ := feed_at (r := ⟨y0, y1, y2, y3, y4, y5, y6⟩) (by rw [HSE.out.run.lx]; exact HINL.out) HI0.out HOK.out
          rw [e5] at t4
          rw [e4]
          have T4 := Lib.hid t4
          have U4 := Lib.hid u4
          have A4 := HSE.out.arr.turn u4 (F.out.three (Nat.le_refl _))
          have ka : w4.cell? ⟨gA, i, none⟩ = some (.int .i64 (a : Nat)) := (u4.cell (HSE.out.arr.lt) (F.out.three (Nat.le_refl _)) i).trans HKA.out
          have kf := A4.frozen i
          clear t4 u4 e4 e5 A4
          go_wp2_with fail
          have S5 := Lib.hid (HSE.out.fed F.out U4.out T4.out (by
            have h8 := HSE.out.run.feed HINL.out HI0.out HY.out
            rw [← HROW.out, ← HA.out] at h8
            exact h8))
          have O4 := Lib.hid (HOE.out.turn U4.out fun k hk => by
            have h8 := (Own.base HOE.out k hk).1
            exact F.out.three (by have := HWB.out; omega))
          have O5 := Lib.hid (O4.out.turn (Turn.setCell (S := fun k => k = gA) (p := ⟨gA, i, none⟩) (Turn.refl _ w4) (.inl rfl) (.int .i64 ((a + 1 : Nat) : Int))) fun k hk e => by
            have h8 := (Own.base O4.out k hk).1
            have := HWB.out
            omega)
          have Z5 := Lib.hid (show gA + 1 ≤ (w4.setCell ⟨gA, i, none⟩ (.int .i64 ((a + 1 : Nat) : Int))).heap.size by simp [World.setCell]; exact Nat.le_trans HZE.out U4.out.size)
          have D5 := Lib.hid (show W.drop (q + 1) = waitsTo (xs.set i ⟨1, ⟨y0, y1, y2, y3, y4, y5, y6⟩⟩) (xs.set i ⟨1, ⟨y0, y1, y2, y3, y4, y5, y6⟩⟩).length from (HNX.out _ (by simp)).symm)
          exact ⟨⟨q + 1, _, _, by omega, rfl, D5, S5, O5, Z5⟩, by show nW - ((q : Int) + 1).toNat < nW - (q : Int).toNat; omega⟩
      · obtain rfl : q = nW := by omega
        have hwn : waitsTo xs xs.length = [] := by rw [← HD.out]; exact List.drop_eq_nil_of_le (by rw [← HNW.out]; exact Nat.le_refl _)
        have hf := waits_none hwn fun i hi => HS.out.tr.st i hi
        have HWIN := Lib.hid (HS.out.run.win HO.out HS.out.mg (by rw [HLN.out]; exact h1) hf)
        clear hwn hf HOW HD
        go_wp2_with fail
        refine (tr_win g bs bl o xs _ HS.out.tr).mono ?_
        rcases HWIN.out with ⟨ew, hso⟩ | ⟨b, y, rems', ew, hrun, hmg⟩
        · have HSO := Lib.hid hso
          rw [ew]
          clear HWIN ew hso
          rintro e w4 ⟨rfl, t4, u4⟩
          have O4 := Lib.hid (HS.out.own.turn u4 fun k hk => F.out.three (by have := (Own.base HS.out.own k hk).1; omega))
          have B4 := Lib.hid (HS.out.low.trans (u4.below HS.out.low.size F.out.low))
          clear t4 u4
          simp only [Row.zero]
          go_wp2_with fail
          go_ret2
          refine ⟨_, out, rfl, HSO.out, Own.mono (O4.out.alloc _) ?_, B4.out.alloc B4.out.size _⟩
          have := F.out.a1; have := F.out.b1; omega
        · have HRUN := Lib.hid hrun
          have HMG2 := Lib.hid hmg
          rw [ew]
          clear HWIN ew hrun hmg
          obtain ⟨row, hrow⟩ : ∃ z, z = y.row := ⟨_, rfl⟩
          have HROW := Lib.hid hrow
          rw [← hrow]
          obtain ⟨y0, y1, y2, y3, y4, y5, y6⟩ := row
          clear hrow
          rintro e w4 ⟨rfl, t4, u4⟩
          have O4 := Lib.hid (HS.out.own.turn u4 fun k hk => F.out.three (by have := (Own.base HS.out.own k hk).1; omega))
          have Z4 := Lib.hid (Nat.le_trans HZ.out u4.size)
          have T4 := Lib.hid t4
          have A4 := Lib.hid (HS.out.arr.turn u4 (F.out.three (Nat.le_refl _)))
          have B4 := Lib.hid (HS.out.low.trans (u4.below HS.out.low.size F.out.low))
          have HCT := Lib.hid (show no + 1 ≤ tot by
            have h8 := HMG2.out.count
            rw [List.length_append, ← HNO.out, ← HT.out] at h8
            simp only [List.length_singleton] at h8
            omega)
          clear t4 u4
          have HOB := Lib.hid (show Own ((w4.alloc (.cells #[.int .i64 y0, .int .i64 y1, .int .i64 y2, .int .i64 y3, .int .i64 y4, .int .i64 y5, .string y6] 29)).alloc (.cells #[.int .i64 y0, .int .i64 y1, .int .i64 y2, .int .i64 y3, .int .i64 y4, .int .i64 y5, .string y6] 29)) (gA + 1) 29 7 Row.cells (.slice Ao no co) (out.map Nm.row) from (O4.out.alloc _).alloc _)
          have HLO := Lib.hid (show (out.map Nm.row).length = no by rw [List.length_map]; exact HNO.out.symm)
          have HSL := Lib.hid (show (out.map Nm.row).length + 1 ≤ maxLen ∧ ((out.map Nm.row).length + 1) * 64 ≤ 140737488355328 by rw [HLO.out]; have := HCT.out; unfold maxLen; omega)
          go_wp2_with (at_builtin; go_loud (refine push_list Row.cells 29 50 29 (.agg Row.zero.cells.toArray) 7 64 Try.underlying50 (by kernel_rfl) rfl (by decide) Row.cells_length row_one _ _ (by rfl) (by rfl) (gA + 1) (.slice Ao no co) (out.map Nm.row) (⟨y0, y1, y2, y3, y4, y5, y6⟩ : Row) (by rfl) HOB.out (w4.heap.size + 1) 1 (by rfl) (RowAt.new' _ _ 29 [.int .i64 y0, .int .i64 y1, .int .i64 y2, .int .i64 y3, .int .i64 y4, .int .i64 y5, .string y6] (by simp)) HSL.out.1 HSL.out.2 (by have := Z4.out; simp; omega) (w4.heap.size + 1 + 1) (by simp) ?_); intro g8 cap8 w8 o8 g8' l8 l9; have O8 := Lib.hid o8; have G8 := Lib.hid g8'; clear o8 g8' l8 l9)
          have hB2 : Below w4.heap.size w4 ((w4.alloc (.cells #[.int .i64 y0, .int .i64 y1, .int .i64 y2, .int .i64 y3, .int .i64 y4, .int .i64 y5, .string y6] 29)).alloc (.cells #[.int .i64 y0, .int .i64 y1, .int .i64 y2, .int .i64 y3, .int .i64 y4, .int .i64 y5, .string y6] 29)) := ((Below.refl _ _).alloc (Nat.le_refl _) _).alloc (by simp) _
          have O9 := O8.out
          rw [HROW.out] at O9
          have S8 := Lib.hid (mst_push F.out (T4.out.below hB2) (A4.out.below hB2) HOB.out (B4.out.trans (hB2.mono B4.out.size)) HRUN.out HMG2.out G8.out O9)
          have Z8 := Lib.hid (show gA + 1 ≤ w8.heap.size from Nat.le_trans Z4.out (Nat.le_trans hB2.size G8.out.size))
          have N8 := Lib.hid (show no + 1 = (out ++ [y]).length by rw [List.length_append, ← HNO.out]; rfl)
          have L8 := Lib.hid (show (out.map Nm.row).length + 1 = no + 1 by rw [HLO.out])
          clear hB2 O9
          rw [L8.out] at S8
          rw [show out.length + 1 = no + 1 by rw [HNO.out]]
          exact ⟨⟨_, no + 1, cap8, _, ats, rems', out ++ [y], rfl, N8, S8, Z8⟩, by show tot - (no + 1) < tot - no; have := HCT.out; omega⟩
end Go.Proofs.Ytgcfpepaapdjoaa
