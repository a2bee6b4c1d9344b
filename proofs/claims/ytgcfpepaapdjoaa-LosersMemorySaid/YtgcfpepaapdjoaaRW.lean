/- The document's Win: its contract. -/
import Derived.Test.YtgcfpepaapdjoaaRT
namespace Go.Proofs.Ytgcfpepaapdjoaa
set_option linter.unusedVariables false
set_option linter.unusedSimpArgs false
open Go.RowKit

/-- The best of the first i sources. -/
def RT.bestTo (t : RT) : Nat → Option Nat
  | 0 => none
  | i + 1 => if t.st.getD i 0 = 1 then (match t.bestTo i with | none => some i | some b => if before t.order (rowAt' t.rows i) (rowAt' t.rows b) then some i else some b) else t.bestTo i
def bestI : Option Nat → Int
  | none => -1
  | some b => b
theorem RT.bestTo_lt (t : RT) (i b : Nat) (h : t.bestTo i = some b) : b < i := by
  induction i generalizing b with
  | zero => simp [RT.bestTo] at h
  | succ i ih =>
    rw [RT.bestTo] at h
    split at h
    · split at h
      · injection h with h; omega
      · rename_i b' hb
        split at h
        · injection h with h; omega
        · injection h with h; subst h; have := ih b' hb; omega
    · have := ih b h; omega
def RT.anyWait (t : RT) : Bool := t.st.any fun s => s == 0
def RT.winF (t : RT) : (Int × Row × Int) × RT :=
  if t.anyWait then ((0, Row.zero, 113), t)
  else match t.bestTo t.st.length with
    | none => ((0, Row.zero, 114), t)
    | some b => (((b : Nat), rowAt' t.rows b, 0), { t with st := t.st.set b 0 })
def RWinPost (r rs rr : Nat) (w : World) (q : (Int × Row × Int) × RT) (e : Ending) (w' : World) : Prop :=
  e = .returned (.tuple #[.int .i64 q.1.1, .agg #[.int .i64 q.1.2.1.kind, .int .i64 q.1.2.1.time, .int .i64 q.1.2.1.seq, .int .i64 q.1.2.1.index, .int .i64 q.1.2.1.frm, .int .i64 q.1.2.1.to, .string q.1.2.1.body], .int .i64 q.1.2.2]) ∧
    IsRT w' r rs rr q.2 ∧ Turn (fun b => b = rs ∨ b = rr) w w'
theorem belowN {B : Nat} {w wr : World} (h : Below B w wr) (n : Nat) : Below B w (wr.drewN n) := ⟨h.os, h.tape, h.output, h.size, h.block⟩
def zeros7 : List Value := [.int .i64 0, .int .i64 0, .int .i64 0, .int .i64 0, .int .i64 0, .int .i64 0, .string ByteArray.empty]
set_option maxRecDepth 100000 in
set_option maxHeartbeats 3200000 in
theorem rwin_any (r rs rr : Nat) (t : RT) (w : World) (h : IsRT w r rs rr t) : Calls Try.prog 30 #[.pointer (some ⟨r, 0, none⟩)] w (RWinPost r rs rr w t.winF) := by
  have le := h.le
  have hc := h.cells
  have h0 := Lib.hid h
  have lr := h.main.lt
  have lrs := h.st.lt
  have lrr := h.rows.lt
  have hlen := Lib.hid h.len
  have hord := Lib.hid h.ord
  have hu45 := Try.underlying45
  clear h
  generalize hres : t.winF = res
  have HR := Lib.hid hres
  clear hres
  go_enter Try.func30, Try.ntmps30
  go_wp2
  go_loopw [6, 5] (fun v b wr => ∃ i : Nat, v = .int .i64 i ∧ b = .int .i64 (bestI (t.bestTo i)) ∧ i ≤ t.st.length ∧ Hid (∀ j, j < i → t.st.getD j 0 ≠ 0) ∧ Hid (Below w.heap.size w wr) ∧ Hid (RowAt wr w.heap.size 45 zeros7)) (fun v _ _ => t.st.length - (intOf v).toNat)
  case atStart => exact ⟨0, rfl, rfl, by omega, fun j hj => by omega, (Below.refl _ _).alloc (Nat.le_refl _) _, heap_alloc_new w _⟩
  case round =>
    obtain ⟨i, rfl, rfl, hi, HZ, HB, HX⟩ := hrel
    have hcr := (h0.out.below HB.out).cells
    have hsz := HX.out.lt
    clear hc
    by_cases hlt : i < t.st.length
    · have x0 := (h0.out.below HB.out).st_at hlt
      obtain ⟨s, hs⟩ : ∃ s, s = t.st.getD i 0 := ⟨_, rfl⟩
      rw [← hs] at x0
      have HSt := Lib.hid hs
      clear hs
      by_cases e0 : s = 0
      · subst e0
        have hbx : ∀ j, wr.cell? ⟨w.heap.size, j, none⟩ = [Value.int .i64 0, .int .i64 0, .int .i64 0, .int .i64 0, .int .i64 0, .int .i64 0, .string ByteArray.empty][j]? := HX.out.cell
        have hbf := HX.out.frozen
        go_wp2
        have hB' := HB.out
        have t1 : Turn (fun b => b = rs ∨ b = rr) w (wset wr w.heap.size 0 zeros7) := Turn.wset (.inr (Nat.le_refl _)) _ _ (Turn.of_below hB' _)
        have r1 := RowAt.wset zeros7 0 HX.out
        have i1 : IsRT (wset wr w.heap.size 0 zeros7) r rs rr t := (h0.out.below hB').turn (S := (· = w.heap.size)) (Turn.wset (S := (· = w.heap.size)) (.inl rfl) _ _ (Turn.refl _ _)) (by omega) (by omega) (by omega)
        have hwt : t.anyWait = true := by
          unfold RT.anyWait
          rw [List.any_eq_true]
          exact ⟨t.st[i], List.getElem_mem hlt, by have := HSt.out; rw [List.getD_eq_getElem?_getD, List.getElem?_eq_getElem hlt] at this; simpa using this.symm⟩
        have hrr : res = ((0, Row.zero, 113), t) := by rw [← HR.out]; unfold RT.winF; rw [if_pos hwt]
        rw [hrr]
        exact bodyPost_ret (results_tct Try.results30 _ rfl r1 Try.underlying45 rfl (by kernel_rfl)) rfl ⟨rfl, i1, t1⟩
      · have hz' : ∀ j, j < i + 1 → t.st.getD j 0 ≠ 0 := fun j hj => by
          rcases Nat.lt_succ_iff_lt_or_eq.1 hj with h' | rfl
          · exact HZ.out j h'
          · rw [← HSt.out]; exact e0
        have HZ' := Lib.hid hz'
        clear hz'
        by_cases e1 : s = 1
        · subst e1
          cases hb : t.bestTo i with
          | none =>
            have hn : t.bestTo (i + 1) = some i := by rw [RT.bestTo, if_pos HSt.out.symm, hb]
            have HN := Lib.hid hn
            clear hn
            simp only [bestI]
            go_wp2_with fail
            go_quiet (fail)
            go_wp2
            go_roundw
            case rel => exact ⟨i + 1, by go_num, by rw [HN.out], by omega, HZ'.out, belowN HB.out _, HX.out.drewN _⟩
            case measure => simp [intOf]; omega
          | some b =>
            have hbi := t.bestTo_lt i b hb
            have hb0 : decide ((b : Int) < 0) = false := decide_eq_false (by omega)
            have hbl : b < t.st.length := by omega
            have li : i < t.rows.length := by rw [hlen.out]; exact hlt
            have lb : b < t.rows.length := by rw [hlen.out]; omega
            obtain ⟨y0, y1, y2, y3, y4, y5, y6⟩ := Row.at (h0.out.below HB.out).rows (rowAt'_some li)
            obtain ⟨z0, z1, z2, z3, z4, z5, z6⟩ := Row.at (h0.out.below HB.out).rows (rowAt'_some lb)
            have hn : t.bestTo (i + 1) = if before t.order (rowAt' t.rows i) (rowAt' t.rows b) then some i else some b := by rw [RT.bestTo, if_pos HSt.out.symm, hb]
            have HN := Lib.hid hn
            clear hn li lb
            simp only [bestI]
            go_wp2_with fail
            refine wp_region_still_tail 30 (by kernel_rfl) (by kernel_rfl) ?_
            simp only [List.take_succ_cons, List.take_zero, List.drop_succ_cons, List.drop_zero]
            repeat still_step
            refine wpStill_nil ?_
            change wpList _ _ _ _ _ wr.drew
            have BD := Lib.hid (HB.out.drew)
            have XD := Lib.hid (HX.out.drew)
            generalize wr.drew = W2 at BD XD ⊢
            clear y0 y1 y2 y3 y4 y5 y6 z0 z1 z2 z3 z4 z5 z6 hcr x0
            go_wp2_with fail
            refine (before_any t.order hord.out (rowAt' t.rows i) (rowAt' t.rows b) _).mono ?_
            rintro e w3 ⟨rfl, b3⟩
            have B3 := Lib.hid (BD.out.trans (b3.mono BD.out.size))
            have X3 := Lib.hid (XD.out.below b3)
            clear b3 BD XD HB HX
            cases hbf : before t.order (rowAt' t.rows i) (rowAt' t.rows b)
            · go_wp2
              go_roundw
              case rel => exact ⟨i + 1, by go_num, by rw [HN.out, hbf]; rfl, by omega, HZ'.out, B3.out, X3.out⟩
              case measure => simp [intOf]; omega
            · go_wp2
              go_roundw
              case rel => exact ⟨i + 1, by go_num, by rw [HN.out, hbf]; rfl, by omega, HZ'.out, B3.out, X3.out⟩
              case measure => simp [intOf]; omega
        · have hn : t.bestTo (i + 1) = t.bestTo i := by rw [RT.bestTo, if_neg (by rw [← HSt.out]; exact e1)]
          have HN := Lib.hid hn
          clear hn
          have hf : (s == 1) = false := by simpa using e1
          go_wp2_with fail
          go_quiet (fail)
          go_wp2
          go_roundw
          case rel => exact ⟨i + 1, by go_num, by rw [HN.out], by omega, HZ'.out, belowN HB.out _, HX.out.drewN _⟩
          case measure => simp [intOf]; omega
    · have ei : i = t.st.length := by omega
      have hnw : ¬ t.anyWait = true := by
        unfold RT.anyWait
        rw [List.any_eq_true]
        rintro ⟨x, hx, h0'⟩
        obtain ⟨j, hj⟩ := List.mem_iff_getElem?.1 hx
        have hjl : j < t.st.length := (List.getElem?_eq_some_iff.1 hj).1
        have := HZ.out j (by omega)
        rw [List.getD_eq_getElem?_getD, hj] at this
        simp at this h0'
        exact this h0'
      have hB' := HB.out
      have hbx : ∀ j, wr.cell? ⟨w.heap.size, j, none⟩ = [Value.int .i64 0, .int .i64 0, .int .i64 0, .int .i64 0, .int .i64 0, .int .i64 0, .string ByteArray.empty][j]? := HX.out.cell
      have hbf := HX.out.frozen
      cases hb : t.bestTo i with
      | none =>
        have hrr : res = ((0, Row.zero, 114), t) := by rw [← HR.out]; unfold RT.winF; rw [if_neg hnw, ← ei, hb]
        have HRR := Lib.hid hrr
        clear hrr hnw
        simp only [bestI]
        go_wp2
        have t1 : Turn (fun b => b = rs ∨ b = rr) w (wset wr w.heap.size 0 zeros7) := Turn.wset (.inr (Nat.le_refl _)) _ _ (Turn.of_below hB' _)
        have r1 := RowAt.wset zeros7 0 HX.out
        have i1 : IsRT (wset wr w.heap.size 0 zeros7) r rs rr t := (h0.out.below hB').turn (S := (· = w.heap.size)) (Turn.wset (S := (· = w.heap.size)) (.inl rfl) _ _ (Turn.refl _ _)) (by omega) (by omega) (by omega)
        rw [HRR.out]
        exact bodyPost_ret (results_tct Try.results30 _ rfl r1 Try.underlying45 rfl (by kernel_rfl)) rfl ⟨rfl, i1, t1⟩
      | some b =>
        have hbi := t.bestTo_lt i b hb
        have hrr : res = ((((b : Nat) : Int), rowAt' t.rows b, (0 : Int)), { t with st := t.st.set b 0 }) := by rw [← HR.out]; unfold RT.winF; rw [if_neg hnw, ← ei, hb]
        have HRR := Lib.hid hrr
        have lb : b < t.rows.length := by rw [hlen.out]; omega
        obtain ⟨z0, z1, z2, z3, z4, z5, z6⟩ := Row.at (h0.out.below hB').rows (rowAt'_some lb)
        have xb := (h0.out.below hB').st_at (n := b) (by omega)
        have hfs := (h0.out.below hB').st.frozen
        have ne1 := h0.out.rs_rr
        have ne2 := h0.out.r_rs
        have ne3 : rr ≠ w.heap.size := by omega
        have ne4 : rs ≠ w.heap.size := by omega
        have ne5 : r ≠ w.heap.size := by omega
        clear hrr hnw lb
        simp only [bestI]
        go_wp2_with fail
        go_region
        all_goals go_wp2
        have t0 : Turn (fun b => b = rs ∨ b = rr) wr (wr.setCell ⟨rs, b, none⟩ (.int .i64 0)) := (Turn.refl _ _).setCell (.inl (.inl rfl)) _
        have X1 := HX.out.far (p := ⟨rs, b, none⟩) (Ne.symm ne4) (.int .i64 0)
        have r1 := (RowAt.wset (rowAt' t.rows b).cells 0 X1).drew
        have i0 : IsRT (wr.setCell ⟨rs, b, none⟩ (.int .i64 0)) r rs rr { t with st := t.st.set b 0 } := by
          have i' := h0.out.below hB'
          refine ⟨?_, (i'.st.set b (.int .i64 0)).congr (by simp [List.map_set]), i'.rows.far (p := ⟨rs, b, none⟩) (Ne.symm ne1) (.int .i64 0), by simpa using i'.len, i'.ord, by simpa using i'.pos, by simpa using i'.le⟩
          have := i'.main.far (p := ⟨rs, b, none⟩) ne2 (.int .i64 0)
          unfold RT.head at this ⊢
          simpa using this
        have i1 := (i0.turn (S := (· = w.heap.size)) (Turn.wset (S := (· = w.heap.size)) (.inl rfl) (rowAt' t.rows b).cells 0 (Turn.refl _ _)) ne5 ne4 ne3).drew
        have t1 := (Turn.wset (S := fun b => b = rs ∨ b = rr) (g := w.heap.size) (.inr (Nat.le_refl _)) (rowAt' t.rows b).cells 0 ((Turn.of_below hB' _).trans t0)).drew
        rw [HRR.out]
        exact bodyPost_ret (results_tct Try.results30 _ rfl r1 Try.underlying45 rfl (by kernel_rfl)) rfl ⟨rfl, i1, t1⟩
end Go.Proofs.Ytgcfpepaapdjoaa
