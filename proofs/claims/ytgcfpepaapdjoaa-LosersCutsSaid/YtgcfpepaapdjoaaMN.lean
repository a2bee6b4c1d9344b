/- A sorted list dealt out and merged: what the check does. -/
import Derived.Test.YtgcfpepaapdjoaaMM
import Derived.Deep.RegionLaw
namespace Go.Proofs.Ytgcfpepaapdjoaa
set_option linter.unusedVariables false
set_option linter.unusedSimpArgs false
open Go.RowKit

def LL.zero : LL := ⟨none, 0, []⟩
theorem info50 : (Try.prog.info? 50).map (fun i => (i.zero, i.size, i.bytes)) = some (some (.slice none 0 0), 1, 24) := by kernel_rfl
structure CutSt (w0 : World) (gL : Nat) (i : Nat) (ls : List LL) (al : LL) (w : World) : Prop where
  len : ls.length = 5
  arr : RowAt w gL 50 (ls.flatMap LL.cells)
  fam : Fam w (gL + 1) (ls ++ [al])
  deal : Deal i (ls.map LL.rows) al.rows
  low : Below w0.heap.size w0 w
theorem CutSt.below {w0 w w' : World} {gL i : Nat} {ls : List LL} {al : LL} (h : CutSt w0 gL i ls al w) (hb : Below w.heap.size w w') : CutSt w0 gL i ls al w' := ⟨h.len, h.arr.below hb, h.fam.below hb, h.deal, h.low.trans (hb.mono h.low.size)⟩
theorem CutSt.skip {w0 w : World} {gL i : Nat} {ls : List LL} {al : LL} (h : CutSt w0 gL i ls al w) : CutSt w0 gL (i + 1) ls al w := ⟨h.len, h.arr, h.fam, h.deal.skip, h.low⟩
theorem ll_cells (ls : List LL) : ls.flatMap LL.cells = ls.map LL.val := by
  induction ls with
  | nil => rfl
  | cons x ls ih => rw [List.flatMap_cons, ih]; rfl
theorem CutSt.box {w0 w w' : World} {gL i b : Nat} {ls : List LL} {al : LL} (h : CutSt w0 gL i ls al w) (hg : w0.heap.size ≤ gL) (hb : gL + 1 ≤ b) (hf : ∀ (j : Nat) (l : LL), (ls ++ [al])[j]? = some l → ∀ k, l.val.ownBlock = some k → k < b) (ht : Turn (fun k => k = b) w w') : CutSt w0 gL i ls al w' :=
  ⟨h.len, h.arr.turn ht (by omega), h.fam.turn ht fun j l hl k hk e => by have := hf j l hl k hk; omega, h.deal, h.low.trans (ht.below h.low.size fun k hk e => by omega)⟩
theorem cutSt_start {w0 w : World} {gL : Nat} (h : RowAt w gL 50 ((List.replicate 5 LL.zero).flatMap LL.cells)) (hl : Below w0.heap.size w0 w) : CutSt w0 gL 0 (List.replicate 5 LL.zero) LL.zero w := by
  have hz : ∀ (i : Nat) (l : LL), (List.replicate 5 LL.zero ++ [LL.zero])[i]? = some l → l = LL.zero := by
    intro i l hl
    have := List.mem_of_getElem? hl
    rcases List.mem_append.1 this with h | h
    · exact (List.mem_replicate.1 h).2
    · simpa using h
  refine ⟨rfl, h, ⟨fun i l hl => ?_, fun i j a b ha hb hne k hk => ?_⟩, Deal.start, hl⟩
  · rw [hz i l hl]; exact Own.nil _ _ _ _ _
  · rw [hz i a ha] at hk; simp [LL.val, LL.zero, Value.ownBlock] at hk
/-- A row is laid behind list k: the slice has grown, and its head is stored. -/
theorem cut_deal {w0 w w1 w2 : World} {gL k : Nat} {ls : List LL} {al x x' : LL} (hg1 : w0.heap.size ≤ gL) (h1 : ls.length = 5) (harr : RowAt w gL 50 (ls.flatMap LL.cells)) (hfam : Fam w (gL + 1) (ls ++ [al])) (hlow : Below w0.heap.size w0 w) (hk : ls[k]? = some x) (hg : w.grownBy w1 x.val.ownBlock) (ho : Own w1 (gL + 1) 29 7 Row.cells x'.val x'.rows)
    (hb : ∀ q, x'.val.ownBlock = some q → x.val.ownBlock = some q ∨ w.heap.size ≤ q) (he : w2 = w1.setCell ⟨gL, k, none⟩ x'.val) :
    RowAt w2 gL 50 ((ls.set k x').flatMap LL.cells) ∧ Fam w2 (gL + 1) (ls.set k x' ++ [al]) ∧ Below w0.heap.size w0 w2 := by
  subst he
  have hkl := (List.getElem?_eq_some_iff.1 hk).1
  have hk' : (ls ++ [al])[k]? = some x := by rw [List.getElem?_append_left hkl]; exact hk
  have hown := hfam.own k x hk'
  have hf := hfam.grow hk' hg ho hb
  rw [List.set_append_left _ _ hkl] at hf
  have hT : Turn (fun k => x.val.ownBlock = some k) w w1 := (Turn.refl _ w).grown hg fun k hk => .inl hk
  have ha := harr.turn hT (fun e => by have := (Own.base hown _ e).1; omega)
  refine ⟨?_, hf.turn (S := fun q => q = gL) (Turn.setCell (S := fun q => q = gL) (p := ⟨gL, k, none⟩) (Turn.refl _ _) (.inl rfl) _) fun j l hl q hq e => ?_, ?_⟩
  · have h9 := ha.set k x'.val
    rw [ll_cells, ← List.map_set (f := LL.val), ← ll_cells] at h9
    exact h9
  · have := (Own.base (hf.own j l hl) q hq).1
    omega
  · exact (hlow.trans (hT.below hlow.size fun q hq e => by have := (Own.base hown q e).1; omega)).setCell (by simp only; omega) _
theorem cut_all {w0 w w1 : World} {gL : Nat} {ls : List LL} {al al' : LL} (hg1 : w0.heap.size ≤ gL) (h1 : ls.length = 5) (harr : RowAt w gL 50 (ls.flatMap LL.cells)) (hfam : Fam w (gL + 1) (ls ++ [al])) (hlow : Below w0.heap.size w0 w) (hg : w.grownBy w1 al.val.ownBlock) (ho : Own w1 (gL + 1) 29 7 Row.cells al'.val al'.rows)
    (hb : ∀ q, al'.val.ownBlock = some q → al.val.ownBlock = some q ∨ w.heap.size ≤ q) :
    RowAt w1 gL 50 (ls.flatMap LL.cells) ∧ Fam w1 (gL + 1) (ls ++ [al']) ∧ Below w0.heap.size w0 w1 := by
  have hk' : (ls ++ [al])[5]? = some al := by rw [List.getElem?_append_right (by omega), h1]; rfl
  have hown := hfam.own 5 al hk'
  have hf := hfam.grow hk' hg ho hb
  rw [List.set_append_right _ _ (by omega), h1] at hf
  have hT : Turn (fun k => al.val.ownBlock = some k) w w1 := (Turn.refl _ w).grown hg fun k hk => .inl hk
  exact ⟨harr.turn hT (fun e => by have := (Own.base hown _ e).1; omega), hf, hlow.trans (hT.below hlow.size fun q hq e => by have := (Own.base hown q e).1; omega)⟩
attribute [local go_sem high] eqA29
set_option maxRecDepth 100000 in
set_option maxHeartbeats 16000000 in
theorem cuts_walk (A D : Option Addr) (n cap m dc : Nat) (rows : List Row) (deal : List Int) (w : World) (hn : rows.length = n) (hd : deal.length = m) (hn2 : n ≤ 4611686018427387904) (hm2 : m ≤ 4611686018427387904) (H : SliceRd w A 7 Row.cells rows) (HD : SliceRd w D 1 cellI deal) :
    Calls Try.prog 7 #[.slice A n cap, .slice D m dc] w fun e w' => e = .returned (.bool true) ∧ Below w.heap.size w w' := by
  have HN := Lib.hid hn
  have HM := Lib.hid hd
  have HR := Lib.hid H
  have HDR := Lib.hid HD
  have m5 := run_make_flat (P := Try.prog) LL.cells LL.zero 48 50 _ 24 Try.underlying48 info50 rfl .i64 .i64 5 (by omega) (by omega)
  generalize hX : ((List.replicate 5 LL.zero).flatMap LL.cells).toArray = X at m5
  have HX := Lib.hid hX
  rw [show ((5 : Nat) : Int) = 5 from rfl] at m5
  clear hn hd H HD hX
  go_enter Try.func7, Try.ntmps7
  go_wp2_with fail
  refine (anchor_any w).mono ?_
  rintro e w1 ⟨rfl, b1⟩
  have B1 := Lib.hid b1
  clear b1
  go_wp2_with fail
  obtain ⟨gL, hgL⟩ : ∃ z, z = w1.heap.size := ⟨_, rfl⟩
  rw [← hgL]
  have HG := Lib.hid (show w.heap.size ≤ gL by rw [hgL]; exact B1.out.size)
  have ST := Lib.hid (show CutSt w gL 0 (List.replicate 5 LL.zero) LL.zero (w1.alloc (.cells X 50)) from cutSt_start (by rw [← HX.out]; exact RowAt.new' _ _ 50 _ hgL) (B1.out.alloc B1.out.size _))
  have SZ := Lib.hid (show gL + 1 ≤ (w1.alloc (.cells X 50)).heap.size by simp; omega)
  clear hgL B1 m5
  go_loopw [19, 6] (fun ix va wr => ∃ (i : Nat) (Aa : Option Addr) (na ca : Nat) (ls : List LL) (ra : List Row), i ≤ n ∧ ix = .int .i64 i ∧ va = .slice Aa na ca ∧ Hid (na = ra.length) ∧ Hid (CutSt w gL i ls ⟨Aa, ca, ra⟩ wr) ∧ Hid (gL + 1 ≤ wr.heap.size)) (fun ix _ _ => n - (intOf ix).toNat)
  case atStart => exact ⟨0, none, 0, 0, _, [], by omega, rfl, rfl, Lib.hid rfl, ST, SZ⟩
  case round =>
    clear ST SZ
    obtain ⟨i, Aa, na, ca, ls, ra, hi, rfl, rfl, HNA, HS, HZ⟩ := hrel
    by_cases hlt : i < n
    · obtain ⟨x, hx⟩ : ∃ x, rows[i]? = some x := ⟨_, List.getElem?_eq_getElem (by rw [HN.out]; exact hlt)⟩
      obtain ⟨b1, off1, rfl, hb1, x0, x1, x2, x3, x4, x5, x6⟩ := row_at (HR.out.below HS.out.low) hx
      have hi0 : (0 : Int) ≤ (i : Int) := by omega
      have hi1 : (i : Int) < (n : Int) := by omega
      obtain ⟨y0, y1, y2, y3, y4, y5, y6⟩ := x
      simp only at x0 x1 x2 x3 x4 x5 x6
      have BX := Lib.hid (show RowAt (wr.alloc (.cells #[.int .i64 y0, .int .i64 y1, .int .i64 y2, .int .i64 y3, .int .i64 y4, .int .i64 y5, .string y6] 29)) wr.heap.size 29 [.int .i64 y0, .int .i64 y1, .int .i64 y2, .int .i64 y3, .int .i64 y4, .int .i64 y5, .string y6] from RowAt.new' _ _ 29 _ rfl)
      have HS1 := Lib.hid (HS.out.below ((Below.refl wr.heap.size wr).alloc (Nat.le_refl _) (.cells #[.int .i64 y0, .int .i64 y1, .int .i64 y2, .int .i64 y3, .int .i64 y4, .int .i64 y5, .string y6] 29)))
      have HB8 := Lib.hid (show gL + 1 ≤ wr.heap.size from HZ.out)
      have HFR := Lib.hid (show ∀ (j : Nat) (l : LL), (ls ++ [(⟨Aa, ca, ra⟩ : LL)])[j]? = some l → ∀ k, l.val.ownBlock = some k → k < wr.heap.size from fun j l hl k hk => (Own.base (HS.out.fam.own j l hl) k hk).2)
      obtain ⟨kv, hkv⟩ : ∃ z, z = Row.ok ⟨y0, y1, y2, y3, y4, y5, y6⟩ := ⟨_, rfl⟩
      have HKV := Lib.hid hkv
      clear hx hkv HS HZ
      go_wp2_with fail
      refine (plain7 y0 y1 y2 y3 y4 y5 y6 _).mono ?_
      rintro e w4 ⟨rfl, b4⟩
      have BX4 := Lib.hid (BX.out.below b4)
      have HS4 := Lib.hid (HS1.out.below b4)
      clear b4 x0 x1 x2 x3 x4 x5 x6 BX HS1
      go_wp2_with fail
      refine (refvalid_any ⟨y0, y1, y2, y3, y4, y5, y6⟩ _).mono ?_
      rw [← HKV.out]
      rintro e w5 ⟨rfl, b5⟩
      have BX5 := Lib.hid (BX4.out.below b5)
      have HS5 := Lib.hid (HS4.out.below b5)
      clear b5 BX4 HS4
      have HZ5 := Lib.hid (show gL + 1 ≤ w5.heap.size by have := BX5.out.lt; have := HB8.out; omega)
      cases kv with
      | false =>
        go_wp2_with fail
        exact ⟨⟨i + 1, Aa, na, ca, ls, ra, by omega, rfl, rfl, HNA, Lib.hid HS5.out.skip, HZ5⟩, by show n - ((i : Int) + 1).toNat < n - (i : Int).toNat; omega⟩
      | true =>
        by_cases hbig : i < 1024
        · have hr1 : (i : Int) % 1024 = (i : Int) := by omega
          have hr2 : (i : Int) % 4096 = (i : Int) := by omega
          have hbi : ¬ (1024 : Int) ≤ (i : Int) := by omega
          have hbd : decide (1024 ≤ i) = false := decide_eq_false (by omega)
          have hxc := BX5.out.cell
          have hxf := BX5.out.frozen
          obtain ⟨W, hW⟩ : ∃ z, z = (w5.setCell ⟨wr.heap.size, 1, none⟩ (.int .i64 (i : Int))).setCell ⟨wr.heap.size, 3, none⟩ (.int .i64 (i : Int)) := ⟨_, rfl⟩
          have HWE := Lib.hid hW
          have BX7 := Lib.hid (show RowAt W wr.heap.size 29 (Row.cells ⟨y0, i, y2, i, y4, y5, y6⟩) by rw [hW]; exact (BX5.out.set 1 (.int .i64 (i : Int))).set 3 (.int .i64 (i : Int)))
          have HS7 := Lib.hid (show CutSt w gL i ls ⟨Aa, ca, ra⟩ W from HS5.out.box HG.out HB8.out HFR.out (by
            rw [hW]
            exact Turn.setCell (S := fun q => q = wr.heap.size) (p := ⟨wr.heap.size, 3, none⟩) (Turn.setCell (S := fun q => q = wr.heap.size) (p := ⟨wr.heap.size, 1, none⟩) (Turn.refl _ _) (.inl rfl) _) (.inl rfl) _))
          have HZ7 := Lib.hid (show gL + 1 ≤ W.heap.size by have := BX7.out.lt; have := HB8.out; omega)
          have HOK := Lib.hid (show Row.ok ⟨y0, i, y2, i, y4, y5, y6⟩ = true by
            have h := HKV.out.symm
            rw [Row.ok_iff] at h ⊢
            unfold Row.Right at h ⊢
            simp only at h ⊢
            omega)
          clear hW
          by_cases him : i < m
          · obtain ⟨dv, hdv⟩ : ∃ z, deal[i]? = some z := ⟨_, List.getElem?_eq_getElem (by rw [HM.out]; exact him)⟩
            obtain ⟨bd, offd, rfl, hbd2, hcd⟩ := (HDR.out.below HS7.out.low).at hdv
            have kd := hcd 0 (by omega)
            rw [Nat.mul_one, Nat.add_zero] at kd
            have kd : ((w5.setCell ⟨wr.heap.size, 1, none⟩ (.int .i64 (i : Int))).setCell ⟨wr.heap.size, 3, none⟩ (.int .i64 (i : Int))).cell? ⟨bd, offd + i, none⟩ = some (.int .i64 dv) := by rw [← HWE.out]; exact kd
            have him1 : (i : Int) < (m : Int) := by omega
            clear hcd hdv
            by_cases hd0 : 0 ≤ dv
            · have hdn : (0 : Int) ≤ dv := by omega
              obtain ⟨k, hk⟩ : ∃ k : Nat, dv % 5 = (k : Int) := ⟨(dv % 5).toNat, by omega⟩
              have hk5 : k < 5 := by omega
              have hk0 : (0 : Int) ≤ (k : Int) := by omega
              have hk6 : (k : Int) < 5 := by omega
              obtain ⟨l, hl⟩ : ∃ l, ls[k]? = some l := ⟨_, List.getElem?_eq_getElem (by rw [HS7.out.len]; omega)⟩
              obtain ⟨Ak, ck, rk⟩ := l
              obtain ⟨nk, hnk⟩ : ∃ z, z = rk.length := ⟨_, rfl⟩
              have HNK := Lib.hid hnk
              have hlk : (ls ++ [(⟨Aa, ca, ra⟩ : LL)])[k]? = some ⟨Ak, ck, rk⟩ := by rw [List.getElem?_append_left (List.getElem?_eq_some_iff.1 hl).1]; exact hl
              have HOWN := Lib.hid (show Own W (gL + 1) 29 7 Row.cells (.slice Ak nk ck) rk by have h := HS7.out.fam.own k _ hlk; unfold LL.val at h; rw [hnk]; exact h)
              have HCK := Lib.hid (show W.cell? ⟨gL, k, none⟩ = some (.slice Ak nk ck) by rw [HS7.out.arr.cell, ll_cells, List.getElem?_map, hl]; unfold LL.val; rw [hnk]; rfl)
              have HCNT := Lib.hid (show nk ≤ 1024 by
                have h1 := one_len (List.mem_of_getElem? hl)
                have h2 := HS7.out.deal.small
                rw [hnk]
                simp only at h1
                omega)
              have HL := Lib.hid hl
              clear hl hlk hnk
              go_wp2_with fail
              rw [← HWE.out]
              have hbx : ∀ j, W.cell? ⟨wr.heap.size, j, none⟩ = [Value.int .i64 y0, .int .i64 (i : Int), .int .i64 y2, .int .i64 (i : Int), .int .i64 y4, .int .i64 y5, .string y6][j]? := BX7.out.cell
              have hck := HCK.out
              have hal : ∀ o, (W.alloc o).cell? ⟨gL, k, none⟩ = some (.slice Ak nk ck) := fun o => ((HS7.out.arr.alloc o).cell k).trans ((HS7.out.arr.cell k).symm.trans HCK.out)
              have HOB := Lib.hid (show Own ((W.drew).alloc (.cells #[.int .i64 y0, .int .i64 (i : Int), .int .i64 y2, .int .i64 (i : Int), .int .i64 y4, .int .i64 y5, .string y6] 29)) (gL + 1) 29 7 Row.cells (.slice Ak nk ck) rk from (Own.drawn HOWN.out).alloc _)
              have HRB := Lib.hid (show RowAt ((W.drew).alloc (.cells #[.int .i64 y0, .int .i64 (i : Int), .int .i64 y2, .int .i64 (i : Int), .int .i64 y4, .int .i64 y5, .string y6] 29)) W.heap.size 29 (Row.cells (⟨y0, i, y2, i, y4, y5, y6⟩ : Row)) from RowAt.new' _ _ 29 (Row.cells (⟨y0, i, y2, i, y4, y5, y6⟩ : Row)) rfl)
              have HSL := Lib.hid (show rk.length + 1 ≤ maxLen ∧ (rk.length + 1) * 64 ≤ 140737488355328 by rw [← HNK.out]; have := HCNT.out; unfold maxLen; omega)
              have HBS := Lib.hid (show gL + 1 ≤ ((W.drew).alloc (.cells #[.int .i64 y0, .int .i64 (i : Int), .int .i64 y2, .int .i64 (i : Int), .int .i64 y4, .int .i64 y5, .string y6] 29)).heap.size ∧ ((W.drew).alloc (.cells #[.int .i64 y0, .int .i64 (i : Int), .int .i64 y2, .int .i64 (i : Int), .int .i64 y4, .int .i64 y5, .string y6] 29)).heap.size = W.heap.size + 1 by
                have e : ((W.drew).alloc (.cells #[.int .i64 y0, .int .i64 (i : Int), .int .i64 y2, .int .i64 (i : Int), .int .i64 y4, .int .i64 y5, .string y6] 29)).heap.size = W.heap.size + 1 := (by simp : (W.alloc (.cells #[.int .i64 y0, .int .i64 (i : Int), .int .i64 y2, .int .i64 (i : Int), .int .i64 y4, .int .i64 y5, .string y6] 29)).heap.size = W.heap.size + 1)
                have := HZ7.out
                omega)
              have HBW := Lib.hid (show Below W.heap.size W ((W.drew).alloc (.cells #[.int .i64 y0, .int .i64 (i : Int), .int .i64 y2, .int .i64 (i : Int), .int .i64 y4, .int .i64 y5, .string y6] 29)) from ((Below.refl _ _).drew).alloc (Nat.le_refl _) _)
              go_region_law
                ((refine push_step Row.cells 29 50 29 (.agg Row.zero.cells.toArray) 7 64 Try.underlying50 (by kernel_rfl) rfl (by decide) Row.cells_length row_one _ _ (by rfl) (by rfl) (gL + 1) (.slice Ak nk ck) rk (⟨y0, i, y2, i, y4, y5, y6⟩ : Row) (by rfl) HOB.out W.heap.size 1 (by rfl) HRB.out HSL.out.1 HSL.out.2 HBS.out.1 (W.heap.size + 1) HBS.out.2 ?_; intro g' cap' w8 o8 g8 l8 l9; have O8 := Lib.hid o8; have G8 := Lib.hid g8; have L8 := Lib.hid l8; have D8 := Lib.hid (grown_far g8 (own_far HOB.out (HS7.out.arr.below HBW.out) (by decide)) (HS7.out.arr.below HBW.out)); have c9 : w8.cell? ⟨gL, k, none⟩ = some (.slice Ak nk ck) := (D8.out.cell k).trans ((HS7.out.arr.cell k).symm.trans HCK.out); have f9 := D8.out.frozen k; clear o8 g8 l8 l9))
              all_goals
                have hLV := (show LL.val ⟨some ⟨g', 0, none⟩, cap', rk ++ [(⟨y0, i, y2, i, y4, y5, y6⟩ : Row)]⟩ = .slice (some ⟨g', 0, none⟩) (rk.length + 1) cap' by unfold LL.val; rw [List.length_append]; rfl)
                have hXV := (show LL.val ⟨Ak, ck, rk⟩ = .slice Ak nk ck by unfold LL.val; rw [HNK.out])
                have hAV := (show LL.val ⟨Aa, ca, ra⟩ = .slice Aa na ca by unfold LL.val; rw [HNA.out])
                have P9 := Lib.hid (cut_deal (w2 := w8.setCell ⟨gL, k, none⟩ (.slice (some ⟨g', 0, none⟩) (rk.length + 1) cap')) (x := ⟨Ak, ck, rk⟩) (x' := ⟨some ⟨g', 0, none⟩, cap', rk ++ [(⟨y0, i, y2, i, y4, y5, y6⟩ : Row)]⟩) HG.out HS7.out.len (HS7.out.arr.below HBW.out) (HS7.out.fam.below HBW.out) (HS7.out.low.trans (HBW.out.mono HS7.out.low.size)) HL.out (by rw [hXV]; exact G8.out) (by rw [hLV]; exact O8.out) (fun q hq => by
                  rw [hLV] at hq
                  have e : g' = q := Option.some.inj hq
                  subst e
                  rcases L8.out with h | h
                  · exact .inl (by rw [hXV]; exact h)
                  · exact .inr (by rw [HBS.out.2, h]; exact Nat.le_refl _)) (by rw [hLV]))
                have HLK := Lib.hid (show ∀ k, (Value.slice Ak nk ck).ownBlock = some k → k < wr.heap.size from fun z hz => HFR.out k ⟨Ak, ck, rk⟩ (by rw [List.getElem?_append_left (List.getElem?_eq_some_iff.1 HL.out).1]; exact HL.out) z (by rw [hXV]; exact hz))
                have BX9 := Lib.hid (((BX7.out.below HBW.out).turn ((Turn.refl (fun k => (Value.slice Ak nk ck).ownBlock = some k) _).grown G8.out fun k hk => .inl hk) (fun e => by have := HLK.out _ e; omega)).turn (Turn.setCell (S := fun q => q = gL) (p := ⟨gL, k, none⟩) (Turn.refl _ w8) (.inl rfl) (.slice (some ⟨g', 0, none⟩) (rk.length + 1) cap')) (fun e => by have := HB8.out; omega))
                clear hLV hXV c9 f9 hbx hal
                obtain ⟨W9, hW9⟩ : ∃ z, z = w8.setCell ⟨gL, k, none⟩ (.slice (some ⟨g', 0, none⟩) (rk.length + 1) cap') := ⟨_, rfl⟩
                rw [← hW9] at P9 BX9 ⊢
                have hls : (ls.set k (⟨some ⟨g', 0, none⟩, cap', rk ++ [(⟨y0, i, y2, i, y4, y5, y6⟩ : Row)]⟩ : LL)).length = 5 := by rw [List.length_set]; exact HS7.out.len
                have HLS := Lib.hid hls
                have HOA := Lib.hid (show Own (W9.alloc (.cells #[.int .i64 y0, .int .i64 (i : Int), .int .i64 y2, .int .i64 (i : Int), .int .i64 y4, .int .i64 y5, .string y6] 29)) (gL + 1) 29 7 Row.cells (.slice Aa na ca) ra from by
                  have h := P9.out.2.1.own 5 ⟨Aa, ca, ra⟩ (by rw [List.getElem?_append_right (by omega), hls]; rfl)
                  unfold LL.val at h
                  rw [HNA.out]
                  exact h.alloc _)
                have HDL := Lib.hid (show Deal (i + 1) ((ls.set k (⟨some ⟨g', 0, none⟩, cap', rk ++ [(⟨y0, i, y2, i, y4, y5, y6⟩ : Row)]⟩ : LL)).map LL.rows) (ra ++ [(⟨y0, i, y2, i, y4, y5, y6⟩ : Row)]) from by
                  rw [List.map_set]
                  exact HS7.out.deal.add hbig (by rw [List.getElem?_map, HL.out]; rfl) HOK.out rfl)
                have HLR := Lib.hid (show ra.length ≤ 1024 from HS7.out.deal.cnt)
                have HSL2 := Lib.hid (show ra.length + 1 ≤ maxLen ∧ (ra.length + 1) * 64 ≤ 140737488355328 by have := HLR.out; unfold maxLen; omega)
                have HZ9 := Lib.hid (show gL + 1 ≤ W9.heap.size by have := BX9.out.lt; have := HB8.out; omega)
                have hbx9 : ∀ j, W9.cell? ⟨wr.heap.size, j, none⟩ = [Value.int .i64 y0, .int .i64 (i : Int), .int .i64 y2, .int .i64 (i : Int), .int .i64 y4, .int .i64 y5, .string y6][j]? := BX9.out.cell
                have HBB := Lib.hid (show Below W9.heap.size W9 (W9.alloc (.cells #[.int .i64 y0, .int .i64 (i : Int), .int .i64 y2, .int .i64 (i : Int), .int .i64 y4, .int .i64 y5, .string y6] 29)) from (Below.refl _ _).alloc (Nat.le_refl _) _)
                have HAV := Lib.hid hAV
                clear hls hW9 hAV
                go_wp2_with (at_builtin; go_loud (refine push_list Row.cells 29 50 29 (.agg Row.zero.cells.toArray) 7 64 Try.underlying50 (by kernel_rfl) rfl (by decide) Row.cells_length row_one _ _ (by rfl) (by rfl) (gL + 1) (.slice Aa na ca) ra (⟨y0, i, y2, i, y4, y5, y6⟩ : Row) (by rfl) HOA.out W9.heap.size 1 (by rfl) (RowAt.new' _ _ 29 (Row.cells (⟨y0, i, y2, i, y4, y5, y6⟩ : Row)) rfl) HSL2.out.1 HSL2.out.2 (by have := HZ9.out; simp; omega) (W9.heap.size + 1) (by simp) ?_); intro g10 cap10 w10 o10 g10' l10 l11; have O10 := Lib.hid o10; have G10 := Lib.hid g10'; have L10 := Lib.hid l10; clear o10 g10' l10 l11)
                have hAV := HAV.out
                have hLV2 := (show LL.val ⟨some ⟨g10, 0, none⟩, cap10, ra ++ [(⟨y0, i, y2, i, y4, y5, y6⟩ : Row)]⟩ = .slice (some ⟨g10, 0, none⟩) (ra.length + 1) cap10 by unfold LL.val; rw [List.length_append]; rfl)
                have P10 := Lib.hid (cut_all (w := W9.alloc (.cells #[.int .i64 y0, .int .i64 (i : Int), .int .i64 y2, .int .i64 (i : Int), .int .i64 y4, .int .i64 y5, .string y6] 29)) (al := ⟨Aa, ca, ra⟩) (al' := ⟨some ⟨g10, 0, none⟩, cap10, ra ++ [(⟨y0, i, y2, i, y4, y5, y6⟩ : Row)]⟩) HG.out HLS.out (P9.out.1.below HBB.out) (P9.out.2.1.below HBB.out) (P9.out.2.2.trans (HBB.out.mono P9.out.2.2.size)) (by rw [hAV]; exact G10.out) (by rw [hLV2]; exact O10.out) (fun q hq => by
                  rw [hLV2] at hq
                  have e : g10 = q := Option.some.inj hq
                  subst e
                  rcases L10.out with h | h
                  · exact .inl (by rw [hAV]; exact h)
                  · exact .inr (by rw [h]; simp)))
                have HS11 := Lib.hid (show CutSt w gL (i + 1) (ls.set k (⟨some ⟨g', 0, none⟩, cap', rk ++ [(⟨y0, i, y2, i, y4, y5, y6⟩ : Row)]⟩ : LL)) ⟨some ⟨g10, 0, none⟩, cap10, ra ++ [(⟨y0, i, y2, i, y4, y5, y6⟩ : Row)]⟩ w10 from ⟨HLS.out, P10.out.1, P10.out.2.1, HDL.out, P10.out.2.2⟩)
                exact ⟨⟨i + 1, _, ra.length + 1, cap10, _, _, by omega, rfl, rfl, Lib.hid (by rw [List.length_append]; rfl), HS11, by have h1 := G10.out.size; have h2 := HZ9.out; have h3 := HBB.out.size; exact Lib.hid (by omega)⟩, by show n - ((i : Int) + 1).toNat < n - (i : Int).toNat; omega⟩
            · have hdn : ¬ (0 : Int) ≤ dv := by omega
              have hdd : decide ((0 : Int) ≤ dv) = false := decide_eq_false (by omega)
              obtain ⟨l, hl⟩ : ∃ l, ls[0]? = some l := ⟨_, List.getElem?_eq_getElem (by rw [HS7.out.len]; omega)⟩
              obtain ⟨Ak, ck, rk⟩ := l
              obtain ⟨nk, hnk⟩ : ∃ z, z = rk.length := ⟨_, rfl⟩
              have HNK := Lib.hid hnk
              have hlk : (ls ++ [(⟨Aa, ca, ra⟩ : LL)])[0]? = some ⟨Ak, ck, rk⟩ := by rw [List.getElem?_append_left (List.getElem?_eq_some_iff.1 hl).1]; exact hl
              have HOWN := Lib.hid (show Own W (gL + 1) 29 7 Row.cells (.slice Ak nk ck) rk by have h := HS7.out.fam.own 0 _ hlk; unfold LL.val at h; rw [hnk]; exact h)
              have HCK := Lib.hid (show W.cell? ⟨gL, 0, none⟩ = some (.slice Ak nk ck) by rw [HS7.out.arr.cell, ll_cells, List.getElem?_map, hl]; unfold LL.val; rw [hnk]; rfl)
              have HCNT := Lib.hid (show nk ≤ 1024 by
                have h1 := one_len (List.mem_of_getElem? hl)
                have h2 := HS7.out.deal.small
                rw [hnk]
                simp only at h1
                omega)
              have HL := Lib.hid hl
              clear hl hlk hnk
              go_wp2_with fail
              rw [← HWE.out]
              have hbx : ∀ j, W.cell? ⟨wr.heap.size, j, none⟩ = [Value.int .i64 y0, .int .i64 (i : Int), .int .i64 y2, .int .i64 (i : Int), .int .i64 y4, .int .i64 y5, .string y6][j]? := BX7.out.cell
              have hck := HCK.out
              have hal : ∀ o, (W.alloc o).cell? ⟨gL, 0, none⟩ = some (.slice Ak nk ck) := fun o => ((HS7.out.arr.alloc o).cell 0).trans ((HS7.out.arr.cell 0).symm.trans HCK.out)
              have HOB := Lib.hid (show Own ((W.drew).alloc (.cells #[.int .i64 y0, .int .i64 (i : Int), .int .i64 y2, .int .i64 (i : Int), .int .i64 y4, .int .i64 y5, .string y6] 29)) (gL + 1) 29 7 Row.cells (.slice Ak nk ck) rk from (Own.drawn HOWN.out).alloc _)
              have HRB := Lib.hid (show RowAt ((W.drew).alloc (.cells #[.int .i64 y0, .int .i64 (i : Int), .int .i64 y2, .int .i64 (i : Int), .int .i64 y4, .int .i64 y5, .string y6] 29)) W.heap.size 29 (Row.cells (⟨y0, i, y2, i, y4, y5, y6⟩ : Row)) from RowAt.new' _ _ 29 (Row.cells (⟨y0, i, y2, i, y4, y5, y6⟩ : Row)) rfl)
              have HSL := Lib.hid (show rk.length + 1 ≤ maxLen ∧ (rk.length + 1) * 64 ≤ 140737488355328 by rw [← HNK.out]; have := HCNT.out; unfold maxLen; omega)
              have HBS := Lib.hid (show gL + 1 ≤ ((W.drew).alloc (.cells #[.int .i64 y0, .int .i64 (i : Int), .int .i64 y2, .int .i64 (i : Int), .int .i64 y4, .int .i64 y5, .string y6] 29)).heap.size ∧ ((W.drew).alloc (.cells #[.int .i64 y0, .int .i64 (i : Int), .int .i64 y2, .int .i64 (i : Int), .int .i64 y4, .int .i64 y5, .string y6] 29)).heap.size = W.heap.size + 1 by
                have e : ((W.drew).alloc (.cells #[.int .i64 y0, .int .i64 (i : Int), .int .i64 y2, .int .i64 (i : Int), .int .i64 y4, .int .i64 y5, .string y6] 29)).heap.size = W.heap.size + 1 := (by simp : (W.alloc (.cells #[.int .i64 y0, .int .i64 (i : Int), .int .i64 y2, .int .i64 (i : Int), .int .i64 y4, .int .i64 y5, .string y6] 29)).heap.size = W.heap.size + 1)
                have := HZ7.out
                omega)
              have HBW := Lib.hid (show Below W.heap.size W ((W.drew).alloc (.cells #[.int .i64 y0, .int .i64 (i : Int), .int .i64 y2, .int .i64 (i : Int), .int .i64 y4, .int .i64 y5, .string y6] 29)) from ((Below.refl _ _).drew).alloc (Nat.le_refl _) _)
              go_region_law
                ((refine push_step Row.cells 29 50 29 (.agg Row.zero.cells.toArray) 7 64 Try.underlying50 (by kernel_rfl) rfl (by decide) Row.cells_length row_one _ _ (by rfl) (by rfl) (gL + 1) (.slice Ak nk ck) rk (⟨y0, i, y2, i, y4, y5, y6⟩ : Row) (by rfl) HOB.out W.heap.size 1 (by rfl) HRB.out HSL.out.1 HSL.out.2 HBS.out.1 (W.heap.size + 1) HBS.out.2 ?_; intro g' cap' w8 o8 g8 l8 l9; have O8 := Lib.hid o8; have G8 := Lib.hid g8; have L8 := Lib.hid l8; have D8 := Lib.hid (grown_far g8 (own_far HOB.out (HS7.out.arr.below HBW.out) (by decide)) (HS7.out.arr.below HBW.out)); have c9 : w8.cell? ⟨gL, 0, none⟩ = some (.slice Ak nk ck) := (D8.out.cell 0).trans ((HS7.out.arr.cell 0).symm.trans HCK.out); have f9 := D8.out.frozen 0; clear o8 g8 l8 l9))
              all_goals
                have hLV := (show LL.val ⟨some ⟨g', 0, none⟩, cap', rk ++ [(⟨y0, i, y2, i, y4, y5, y6⟩ : Row)]⟩ = .slice (some ⟨g', 0, none⟩) (rk.length + 1) cap' by unfold LL.val; rw [List.length_append]; rfl)
                have hXV := (show LL.val ⟨Ak, ck, rk⟩ = .slice Ak nk ck by unfold LL.val; rw [HNK.out])
                have hAV := (show LL.val ⟨Aa, ca, ra⟩ = .slice Aa na ca by unfold LL.val; rw [HNA.out])
                have P9 := Lib.hid (cut_deal (w2 := w8.setCell ⟨gL, 0, none⟩ (.slice (some ⟨g', 0, none⟩) (rk.length + 1) cap')) (x := ⟨Ak, ck, rk⟩) (x' := ⟨some ⟨g', 0, none⟩, cap', rk ++ [(⟨y0, i, y2, i, y4, y5, y6⟩ : Row)]⟩) HG.out HS7.out.len (HS7.out.arr.below HBW.out) (HS7.out.fam.below HBW.out) (HS7.out.low.trans (HBW.out.mono HS7.out.low.size)) HL.out (by rw [hXV]; exact G8.out) (by rw [hLV]; exact O8.out) (fun q hq => by
                  rw [hLV] at hq
                  have e : g' = q := Option.some.inj hq
                  subst e
                  rcases L8.out with h | h
                  · exact .inl (by rw [hXV]; exact h)
                  · exact .inr (by rw [HBS.out.2, h]; exact Nat.le_refl _)) (by rw [hLV]))
                have HLK := Lib.hid (show ∀ k, (Value.slice Ak nk ck).ownBlock = some k → k < wr.heap.size from fun z hz => HFR.out 0 ⟨Ak, ck, rk⟩ (by rw [List.getElem?_append_left (List.getElem?_eq_some_iff.1 HL.out).1]; exact HL.out) z (by rw [hXV]; exact hz))
                have BX9 := Lib.hid (((BX7.out.below HBW.out).turn ((Turn.refl (fun k => (Value.slice Ak nk ck).ownBlock = some k) _).grown G8.out fun k hk => .inl hk) (fun e => by have := HLK.out _ e; omega)).turn (Turn.setCell (S := fun q => q = gL) (p := ⟨gL, 0, none⟩) (Turn.refl _ w8) (.inl rfl) (.slice (some ⟨g', 0, none⟩) (rk.length + 1) cap')) (fun e => by have := HB8.out; omega))
                clear hLV hXV c9 f9 hbx hal
                obtain ⟨W9, hW9⟩ : ∃ z, z = w8.setCell ⟨gL, 0, none⟩ (.slice (some ⟨g', 0, none⟩) (rk.length + 1) cap') := ⟨_, rfl⟩
                rw [← hW9] at P9 BX9 ⊢
                have hls : (ls.set 0 (⟨some ⟨g', 0, none⟩, cap', rk ++ [(⟨y0, i, y2, i, y4, y5, y6⟩ : Row)]⟩ : LL)).length = 5 := by rw [List.length_set]; exact HS7.out.len
                have HLS := Lib.hid hls
                have HOA := Lib.hid (show Own (W9.alloc (.cells #[.int .i64 y0, .int .i64 (i : Int), .int .i64 y2, .int .i64 (i : Int), .int .i64 y4, .int .i64 y5, .string y6] 29)) (gL + 1) 29 7 Row.cells (.slice Aa na ca) ra from by
                  have h := P9.out.2.1.own 5 ⟨Aa, ca, ra⟩ (by rw [List.getElem?_append_right (by omega), hls]; rfl)
                  unfold LL.val at h
                  rw [HNA.out]
                  exact h.alloc _)
                have HDL := Lib.hid (show Deal (i + 1) ((ls.set 0 (⟨some ⟨g', 0, none⟩, cap', rk ++ [(⟨y0, i, y2, i, y4, y5, y6⟩ : Row)]⟩ : LL)).map LL.rows) (ra ++ [(⟨y0, i, y2, i, y4, y5, y6⟩ : Row)]) from by
                  rw [List.map_set]
                  exact HS7.out.deal.add hbig (by rw [List.getElem?_map, HL.out]; rfl) HOK.out rfl)
                have HLR := Lib.hid (show ra.length ≤ 1024 from HS7.out.deal.cnt)
                have HSL2 := Lib.hid (show ra.length + 1 ≤ maxLen ∧ (ra.length + 1) * 64 ≤ 140737488355328 by have := HLR.out; unfold maxLen; omega)
                have HZ9 := Lib.hid (show gL + 1 ≤ W9.heap.size by have := BX9.out.lt; have := HB8.out; omega)
                have hbx9 : ∀ j, W9.cell? ⟨wr.heap.size, j, none⟩ = [Value.int .i64 y0, .int .i64 (i : Int), .int .i64 y2, .int .i64 (i : Int), .int .i64 y4, .int .i64 y5, .string y6][j]? := BX9.out.cell
                have HBB := Lib.hid (show Below W9.heap.size W9 (W9.alloc (.cells #[.int .i64 y0, .int .i64 (i : Int), .int .i64 y2, .int .i64 (i : Int), .int .i64 y4, .int .i64 y5, .string y6] 29)) from (Below.refl _ _).alloc (Nat.le_refl _) _)
                have HAV := Lib.hid hAV
                clear hls hW9 hAV
                go_wp2_with (at_builtin; go_loud (refine push_list Row.cells 29 50 29 (.agg Row.zero.cells.toArray) 7 64 Try.underlying50 (by kernel_rfl) rfl (by decide) Row.cells_length row_one _ _ (by rfl) (by rfl) (gL + 1) (.slice Aa na ca) ra (⟨y0, i, y2, i, y4, y5, y6⟩ : Row) (by rfl) HOA.out W9.heap.size 1 (by rfl) (RowAt.new' _ _ 29 (Row.cells (⟨y0, i, y2, i, y4, y5, y6⟩ : Row)) rfl) HSL2.out.1 HSL2.out.2 (by have := HZ9.out; simp; omega) (W9.heap.size + 1) (by simp) ?_); intro g10 cap10 w10 o10 g10' l10 l11; have O10 := Lib.hid o10; have G10 := Lib.hid g10'; have L10 := Lib.hid l10; clear o10 g10' l10 l11)
                have hAV := HAV.out
                have hLV2 := (show LL.val ⟨some ⟨g10, 0, none⟩, cap10, ra ++ [(⟨y0, i, y2, i, y4, y5, y6⟩ : Row)]⟩ = .slice (some ⟨g10, 0, none⟩) (ra.length + 1) cap10 by unfold LL.val; rw [List.length_append]; rfl)
                have P10 := Lib.hid (cut_all (w := W9.alloc (.cells #[.int .i64 y0, .int .i64 (i : Int), .int .i64 y2, .int .i64 (i : Int), .int .i64 y4, .int .i64 y5, .string y6] 29)) (al := ⟨Aa, ca, ra⟩) (al' := ⟨some ⟨g10, 0, none⟩, cap10, ra ++ [(⟨y0, i, y2, i, y4, y5, y6⟩ : Row)]⟩) HG.out HLS.out (P9.out.1.below HBB.out) (P9.out.2.1.below HBB.out) (P9.out.2.2.trans (HBB.out.mono P9.out.2.2.size)) (by rw [hAV]; exact G10.out) (by rw [hLV2]; exact O10.out) (fun q hq => by
                  rw [hLV2] at hq
                  have e : g10 = q := Option.some.inj hq
                  subst e
                  rcases L10.out with h | h
                  · exact .inl (by rw [hAV]; exact h)
                  · exact .inr (by rw [h]; simp)))
                have HS11 := Lib.hid (show CutSt w gL (i + 1) (ls.set 0 (⟨some ⟨g', 0, none⟩, cap', rk ++ [(⟨y0, i, y2, i, y4, y5, y6⟩ : Row)]⟩ : LL)) ⟨some ⟨g10, 0, none⟩, cap10, ra ++ [(⟨y0, i, y2, i, y4, y5, y6⟩ : Row)]⟩ w10 from ⟨HLS.out, P10.out.1, P10.out.2.1, HDL.out, P10.out.2.2⟩)
                exact ⟨⟨i + 1, _, ra.length + 1, cap10, _, _, by omega, rfl, rfl, Lib.hid (by rw [List.length_append]; rfl), HS11, by have h1 := G10.out.size; have h2 := HZ9.out; have h3 := HBB.out.size; exact Lib.hid (by omega)⟩, by show n - ((i : Int) + 1).toNat < n - (i : Int).toNat; omega⟩
          · have hmi : ¬ (i : Int) < (m : Int) := by omega
            have hmd : decide (i < m) = false := decide_eq_false (by omega)
            obtain ⟨l, hl⟩ : ∃ l, ls[0]? = some l := ⟨_, List.getElem?_eq_getElem (by rw [HS7.out.len]; omega)⟩
            obtain ⟨Ak, ck, rk⟩ := l
            obtain ⟨nk, hnk⟩ : ∃ z, z = rk.length := ⟨_, rfl⟩
            have HNK := Lib.hid hnk
            have hlk : (ls ++ [(⟨Aa, ca, ra⟩ : LL)])[0]? = some ⟨Ak, ck, rk⟩ := by rw [List.getElem?_append_left (List.getElem?_eq_some_iff.1 hl).1]; exact hl
            have HOWN := Lib.hid (show Own W (gL + 1) 29 7 Row.cells (.slice Ak nk ck) rk by have h := HS7.out.fam.own 0 _ hlk; unfold LL.val at h; rw [hnk]; exact h)
            have HCK := Lib.hid (show W.cell? ⟨gL, 0, none⟩ = some (.slice Ak nk ck) by rw [HS7.out.arr.cell, ll_cells, List.getElem?_map, hl]; unfold LL.val; rw [hnk]; rfl)
            have HCNT := Lib.hid (show nk ≤ 1024 by
              have h1 := one_len (List.mem_of_getElem? hl)
              have h2 := HS7.out.deal.small
              rw [hnk]
              simp only at h1
              omega)
            have HL := Lib.hid hl
            clear hl hlk hnk
            go_wp2_with fail
            rw [← HWE.out]
            have hbx : ∀ j, W.cell? ⟨wr.heap.size, j, none⟩ = [Value.int .i64 y0, .int .i64 (i : Int), .int .i64 y2, .int .i64 (i : Int), .int .i64 y4, .int .i64 y5, .string y6][j]? := BX7.out.cell
            have hck := HCK.out
            have hal : ∀ o, (W.alloc o).cell? ⟨gL, 0, none⟩ = some (.slice Ak nk ck) := fun o => ((HS7.out.arr.alloc o).cell 0).trans ((HS7.out.arr.cell 0).symm.trans HCK.out)
            have HOB := Lib.hid (show Own ((W.drew).alloc (.cells #[.int .i64 y0, .int .i64 (i : Int), .int .i64 y2, .int .i64 (i : Int), .int .i64 y4, .int .i64 y5, .string y6] 29)) (gL + 1) 29 7 Row.cells (.slice Ak nk ck) rk from (Own.drawn HOWN.out).alloc _)
            have HRB := Lib.hid (show RowAt ((W.drew).alloc (.cells #[.int .i64 y0, .int .i64 (i : Int), .int .i64 y2, .int .i64 (i : Int), .int .i64 y4, .int .i64 y5, .string y6] 29)) W.heap.size 29 (Row.cells (⟨y0, i, y2, i, y4, y5, y6⟩ : Row)) from RowAt.new' _ _ 29 (Row.cells (⟨y0, i, y2, i, y4, y5, y6⟩ : Row)) rfl)
            have HSL := Lib.hid (show rk.length + 1 ≤ maxLen ∧ (rk.length + 1) * 64 ≤ 140737488355328 by rw [← HNK.out]; have := HCNT.out; unfold maxLen; omega)
            have HBS := Lib.hid (show gL + 1 ≤ ((W.drew).alloc (.cells #[.int .i64 y0, .int .i64 (i : Int), .int .i64 y2, .int .i64 (i : Int), .int .i64 y4, .int .i64 y5, .string y6] 29)).heap.size ∧ ((W.drew).alloc (.cells #[.int .i64 y0, .int .i64 (i : Int), .int .i64 y2, .int .i64 (i : Int), .int .i64 y4, .int .i64 y5, .string y6] 29)).heap.size = W.heap.size + 1 by
              have e : ((W.drew).alloc (.cells #[.int .i64 y0, .int .i64 (i : Int), .int .i64 y2, .int .i64 (i : Int), .int .i64 y4, .int .i64 y5, .string y6] 29)).heap.size = W.heap.size + 1 := (by simp : (W.alloc (.cells #[.int .i64 y0, .int .i64 (i : Int), .int .i64 y2, .int .i64 (i : Int), .int .i64 y4, .int .i64 y5, .string y6] 29)).heap.size = W.heap.size + 1)
              have := HZ7.out
              omega)
            have HBW := Lib.hid (show Below W.heap.size W ((W.drew).alloc (.cells #[.int .i64 y0, .int .i64 (i : Int), .int .i64 y2, .int .i64 (i : Int), .int .i64 y4, .int .i64 y5, .string y6] 29)) from ((Below.refl _ _).drew).alloc (Nat.le_refl _) _)
            go_region_law
              ((refine push_step Row.cells 29 50 29 (.agg Row.zero.cells.toArray) 7 64 Try.underlying50 (by kernel_rfl) rfl (by decide) Row.cells_length row_one _ _ (by rfl) (by rfl) (gL + 1) (.slice Ak nk ck) rk (⟨y0, i, y2, i, y4, y5, y6⟩ : Row) (by rfl) HOB.out W.heap.size 1 (by rfl) HRB.out HSL.out.1 HSL.out.2 HBS.out.1 (W.heap.size + 1) HBS.out.2 ?_; intro g' cap' w8 o8 g8 l8 l9; have O8 := Lib.hid o8; have G8 := Lib.hid g8; have L8 := Lib.hid l8; have D8 := Lib.hid (grown_far g8 (own_far HOB.out (HS7.out.arr.below HBW.out) (by decide)) (HS7.out.arr.below HBW.out)); have c9 : w8.cell? ⟨gL, 0, none⟩ = some (.slice Ak nk ck) := (D8.out.cell 0).trans ((HS7.out.arr.cell 0).symm.trans HCK.out); have f9 := D8.out.frozen 0; clear o8 g8 l8 l9))
            all_goals
              have hLV := (show LL.val ⟨some ⟨g', 0, none⟩, cap', rk ++ [(⟨y0, i, y2, i, y4, y5, y6⟩ : Row)]⟩ = .slice (some ⟨g', 0, none⟩) (rk.length + 1) cap' by unfold LL.val; rw [List.length_append]; rfl)
              have hXV := (show LL.val ⟨Ak, ck, rk⟩ = .slice Ak nk ck by unfold LL.val; rw [HNK.out])
              have hAV := (show LL.val ⟨Aa, ca, ra⟩ = .slice Aa na ca by unfold LL.val; rw [HNA.out])
              have P9 := Lib.hid (cut_deal (w2 := w8.setCell ⟨gL, 0, none⟩ (.slice (some ⟨g', 0, none⟩) (rk.length + 1) cap')) (x := ⟨Ak, ck, rk⟩) (x' := ⟨some ⟨g', 0, none⟩, cap', rk ++ [(⟨y0, i, y2, i, y4, y5, y6⟩ : Row)]⟩) HG.out HS7.out.len (HS7.out.arr.below HBW.out) (HS7.out.fam.below HBW.out) (HS7.out.low.trans (HBW.out.mono HS7.out.low.size)) HL.out (by rw [hXV]; exact G8.out) (by rw [hLV]; exact O8.out) (fun q hq => by
                rw [hLV] at hq
                have e : g' = q := Option.some.inj hq
                subst e
                rcases L8.out with h | h
                · exact .inl (by rw [hXV]; exact h)
                · exact .inr (by rw [HBS.out.2, h]; exact Nat.le_refl _)) (by rw [hLV]))
              have HLK := Lib.hid (show ∀ k, (Value.slice Ak nk ck).ownBlock = some k → k < wr.heap.size from fun z hz => HFR.out 0 ⟨Ak, ck, rk⟩ (by rw [List.getElem?_append_left (List.getElem?_eq_some_iff.1 HL.out).1]; exact HL.out) z (by rw [hXV]; exact hz))
              have BX9 := Lib.hid (((BX7.out.below HBW.out).turn ((Turn.refl (fun k => (Value.slice Ak nk ck).ownBlock = some k) _).grown G8.out fun k hk => .inl hk) (fun e => by have := HLK.out _ e; omega)).turn (Turn.setCell (S := fun q => q = gL) (p := ⟨gL, 0, none⟩) (Turn.refl _ w8) (.inl rfl) (.slice (some ⟨g', 0, none⟩) (rk.length + 1) cap')) (fun e => by have := HB8.out; omega))
              clear hLV hXV c9 f9 hbx hal
              obtain ⟨W9, hW9⟩ : ∃ z, z = w8.setCell ⟨gL, 0, none⟩ (.slice (some ⟨g', 0, none⟩) (rk.length + 1) cap') := ⟨_, rfl⟩
              rw [← hW9] at P9 BX9 ⊢
              have hls : (ls.set 0 (⟨some ⟨g', 0, none⟩, cap', rk ++ [(⟨y0, i, y2, i, y4, y5, y6⟩ : Row)]⟩ : LL)).length = 5 := by rw [List.length_set]; exact HS7.out.len
              have HLS := Lib.hid hls
              have HOA := Lib.hid (show Own (W9.alloc (.cells #[.int .i64 y0, .int .i64 (i : Int), .int .i64 y2, .int .i64 (i : Int), .int .i64 y4, .int .i64 y5, .string y6] 29)) (gL + 1) 29 7 Row.cells (.slice Aa na ca) ra from by
                have h := P9.out.2.1.own 5 ⟨Aa, ca, ra⟩ (by rw [List.getElem?_append_right (by omega), hls]; rfl)
                unfold LL.val at h
                rw [HNA.out]
                exact h.alloc _)
              have HDL := Lib.hid (show Deal (i + 1) ((ls.set 0 (⟨some ⟨g', 0, none⟩, cap', rk ++ [(⟨y0, i, y2, i, y4, y5, y6⟩ : Row)]⟩ : LL)).map LL.rows) (ra ++ [(⟨y0, i, y2, i, y4, y5, y6⟩ : Row)]) from by
                rw [List.map_set]
                exact HS7.out.deal.add hbig (by rw [List.getElem?_map, HL.out]; rfl) HOK.out rfl)
              have HLR := Lib.hid (show ra.length ≤ 1024 from HS7.out.deal.cnt)
              have HSL2 := Lib.hid (show ra.length + 1 ≤ maxLen ∧ (ra.length + 1) * 64 ≤ 140737488355328 by have := HLR.out; unfold maxLen; omega)
              have HZ9 := Lib.hid (show gL + 1 ≤ W9.heap.size by have := BX9.out.lt; have := HB8.out; omega)
              have hbx9 : ∀ j, W9.cell? ⟨wr.heap.size, j, none⟩ = [Value.int .i64 y0, .int .i64 (i : Int), .int .i64 y2, .int .i64 (i : Int), .int .i64 y4, .int .i64 y5, .string y6][j]? := BX9.out.cell
              have HBB := Lib.hid (show Below W9.heap.size W9 (W9.alloc (.cells #[.int .i64 y0, .int .i64 (i : Int), .int .i64 y2, .int .i64 (i : Int), .int .i64 y4, .int .i64 y5, .string y6] 29)) from (Below.refl _ _).alloc (Nat.le_refl _) _)
              have HAV := Lib.hid hAV
              clear hls hW9 hAV
              go_wp2_with (at_builtin; go_loud (refine push_list Row.cells 29 50 29 (.agg Row.zero.cells.toArray) 7 64 Try.underlying50 (by kernel_rfl) rfl (by decide) Row.cells_length row_one _ _ (by rfl) (by rfl) (gL + 1) (.slice Aa na ca) ra (⟨y0, i, y2, i, y4, y5, y6⟩ : Row) (by rfl) HOA.out W9.heap.size 1 (by rfl) (RowAt.new' _ _ 29 (Row.cells (⟨y0, i, y2, i, y4, y5, y6⟩ : Row)) rfl) HSL2.out.1 HSL2.out.2 (by have := HZ9.out; simp; omega) (W9.heap.size + 1) (by simp) ?_); intro g10 cap10 w10 o10 g10' l10 l11; have O10 := Lib.hid o10; have G10 := Lib.hid g10'; have L10 := Lib.hid l10; clear o10 g10' l10 l11)
              have hAV := HAV.out
              have hLV2 := (show LL.val ⟨some ⟨g10, 0, none⟩, cap10, ra ++ [(⟨y0, i, y2, i, y4, y5, y6⟩ : Row)]⟩ = .slice (some ⟨g10, 0, none⟩) (ra.length + 1) cap10 by unfold LL.val; rw [List.length_append]; rfl)
              have P10 := Lib.hid (cut_all (w := W9.alloc (.cells #[.int .i64 y0, .int .i64 (i : Int), .int .i64 y2, .int .i64 (i : Int), .int .i64 y4, .int .i64 y5, .string y6] 29)) (al := ⟨Aa, ca, ra⟩) (al' := ⟨some ⟨g10, 0, none⟩, cap10, ra ++ [(⟨y0, i, y2, i, y4, y5, y6⟩ : Row)]⟩) HG.out HLS.out (P9.out.1.below HBB.out) (P9.out.2.1.below HBB.out) (P9.out.2.2.trans (HBB.out.mono P9.out.2.2.size)) (by rw [hAV]; exact G10.out) (by rw [hLV2]; exact O10.out) (fun q hq => by
                rw [hLV2] at hq
                have e : g10 = q := Option.some.inj hq
                subst e
                rcases L10.out with h | h
                · exact .inl (by rw [hAV]; exact h)
                · exact .inr (by rw [h]; simp)))
              have HS11 := Lib.hid (show CutSt w gL (i + 1) (ls.set 0 (⟨some ⟨g', 0, none⟩, cap', rk ++ [(⟨y0, i, y2, i, y4, y5, y6⟩ : Row)]⟩ : LL)) ⟨some ⟨g10, 0, none⟩, cap10, ra ++ [(⟨y0, i, y2, i, y4, y5, y6⟩ : Row)]⟩ w10 from ⟨HLS.out, P10.out.1, P10.out.2.1, HDL.out, P10.out.2.2⟩)
              exact ⟨⟨i + 1, _, ra.length + 1, cap10, _, _, by omega, rfl, rfl, Lib.hid (by rw [List.length_append]; rfl), HS11, by have h1 := G10.out.size; have h2 := HZ9.out; have h3 := HBB.out.size; exact Lib.hid (by omega)⟩, by show n - ((i : Int) + 1).toNat < n - (i : Int).toNat; omega⟩
        · have hbi : (1024 : Int) ≤ (i : Int) := by omega
          have hxc := BX5.out.cell
          have hxf := BX5.out.frozen
          go_wp2_with fail
          have HS7 := Lib.hid (HS5.out.box HG.out HB8.out HFR.out (Turn.setCell (S := fun q => q = wr.heap.size) (p := ⟨wr.heap.size, 3, none⟩) (Turn.setCell (S := fun q => q = wr.heap.size) (p := ⟨wr.heap.size, 1, none⟩) (Turn.refl _ w5) (.inl rfl) (.int .i64 ((i : Int) % 1024))) (.inl rfl) (.int .i64 ((i : Int) % 4096)))).skip
          exact ⟨⟨i + 1, Aa, na, ca, ls, ra, by omega, rfl, rfl, HNA, HS7, by simp [World.setCell]; exact HZ5⟩, by show n - ((i : Int) + 1).toNat < n - (i : Int).toNat; omega⟩
    · obtain rfl : n = i := by omega
      have HLA := Lib.hid (show ListsAt wr (some ⟨gL, 0, none⟩) ls from ⟨.inr ⟨gL, 0, rfl, HS.out.arr.lt, fun j x hx k hk => by
          obtain rfl : k = 0 := by omega
          rw [Nat.zero_add, Nat.mul_one, Nat.add_zero, HS.out.arr.cell, ll_cells, List.getElem?_map, hx]
          rfl⟩, fun l hl => by
          obtain ⟨j, hj⟩ := List.mem_iff_getElem?.1 hl
          exact Own.rd (HS.out.fam.own j l (by rw [List.getElem?_append_left (List.getElem?_eq_some_iff.1 hj).1]; exact hj)) Row.cells_length⟩)
      have HSM := Lib.hid HS.out.deal.small
      have HOA := Lib.hid (show Own wr (gL + 1) 29 7 Row.cells (.slice Aa na ca) ra by
        have h := HS.out.fam.own 5 ⟨Aa, ca, ra⟩ (by rw [List.getElem?_append_right (by rw [HS.out.len]; omega), HS.out.len]; rfl)
        unfold LL.val at h
        rw [HNA.out]
        exact h)
      have HRA := Lib.hid (Own.rd HOA.out Row.cells_length)
      go_wp2_with fail
      refine (merge_yes 1 (.inl rfl) (some ⟨gL, 0, none⟩) 5 5 ls wr HS.out.len (by omega) (by omega) HLA.out (fun l hl => Nat.le_trans (one_len hl) (by have := HSM.out; unfold maxLen; omega)) HS.out.deal.chk _ rfl (by have := HSM.out; omega)).mono ?_
      rintro e w2 ⟨v, out, rfl, so, o2, b2⟩
      have hml := HS.out.deal.merged so
      rw [hml] at o2
      simp only at o2
      obtain ⟨A2, c2, rfl⟩ := own_forms o2
      rw [← HNA.out] at o2 ⊢
      have HR2 := Lib.hid (Own.rd o2 Row.cells_length)
      have HRA2 := Lib.hid (HRA.out.below b2)
      have HB2 := Lib.hid (HS.out.low.trans (b2.mono HS.out.low.size))
      have HNL := Lib.hid (show na ≤ 1024 by rw [HNA.out]; exact HS.out.deal.cnt)
      have hnl := HNL.out
      have hnn : ((na : Int) != (na : Int)) = false := by simp
      clear o2 b2 hml so HLA HOA HRA HS
      go_wp2_with fail
      go_loopw [83] (fun ix wr => ∃ i : Nat, i ≤ na ∧ ix = .int .i64 i ∧ Hid (Below w2.heap.size w2 wr)) (fun ix _ => na - (intOf ix).toNat)
      case atStart => exact ⟨0, by omega, rfl, Lib.hid (Below.refl _ _)⟩
      case round =>
        obtain ⟨i, hi, rfl, HBL⟩ := hrel
        by_cases hlt : i < na
        · obtain ⟨x, hx⟩ : ∃ x, ra[i]? = some x := ⟨_, List.getElem?_eq_getElem (by rw [← HNA.out]; exact hlt)⟩
          obtain ⟨x0, x1, x2, x3, x4, x5, x6⟩ := x
          have hba := (Below.refl wr.heap.size wr).alloc (Nat.le_refl _) (.cells #[.int .i64 x0, .int .i64 x1, .int .i64 x2, .int .i64 x3, .int .i64 x4, .int .i64 x5, .string x6] 29)
          obtain ⟨b, off, rfl, hb, k0, k1, k2, k3, k4, k5, k6⟩ := row_at (HR2.out.below HBL.out) hx
          obtain ⟨b', off', rfl, hb', q0, q1, q2, q3, q4, q5, q6⟩ := row_at ((HRA2.out.below HBL.out).below hba) hx
          simp only at k0 k1 k2 k3 k4 k5 k6 q0 q1 q2 q3 q4 q5 q6
          have hxc : ∀ j, (wr.alloc (.cells #[.int .i64 x0, .int .i64 x1, .int .i64 x2, .int .i64 x3, .int .i64 x4, .int .i64 x5, .string x6] 29)).cell? ⟨wr.heap.size, j, none⟩ = [Value.int .i64 x0, .int .i64 x1, .int .i64 x2, .int .i64 x3, .int .i64 x4, .int .i64 x5, .string x6][j]? := (RowAt.new wr 29 [.int .i64 x0, .int .i64 x1, .int .i64 x2, .int .i64 x3, .int .i64 x4, .int .i64 x5, .string x6]).cell
          have HBA := Lib.hid ((HBL.out.trans (hba.mono HBL.out.size)).drew)
          have hi0 : (0 : Int) ≤ (i : Int) := by omega
          have hi1 : (i : Int) < (na : Int) := by omega
          have hself := Row.eqb_self ⟨x0, x1, x2, x3, x4, x5, x6⟩
          clear hx hba
          go_wp2_with fail
          refine wp_region_still_lit (by kernel_rfl) (by kernel_rfl) ?_
          change wpStill _ _ (World.drew (wr.alloc (.cells #[.int .i64 x0, .int .i64 x1, .int .i64 x2, .int .i64 x3, .int .i64 x4, .int .i64 x5, .string x6] 29))) _ _ _
          repeat still_step
          refine wpStill_nil ?_
          change _
          go_wp2_with fail
          exact ⟨⟨i + 1, by omega, rfl, HBA⟩, by show na - ((i : Int) + 1).toNat < na - (i : Int).toNat; omega⟩
        · obtain rfl : na = i := by omega
          go_wp2_with fail
          go_ret
          exact ⟨rfl, HB2.out.trans (HBL.out.mono HB2.out.size)⟩
end Go.Proofs.Ytgcfpepaapdjoaa
