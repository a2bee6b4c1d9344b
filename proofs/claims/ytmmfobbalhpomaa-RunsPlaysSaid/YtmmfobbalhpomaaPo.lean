/- pop: the walk. -/
import Derived.Test.YtmmfobbalhpomaaHW
import Derived.Deep.DeepCutAuto
import Derived.Deep.CutRange
namespace Go.Proofs.Ytmmfobbalhpomaa
set_option linter.unusedVariables false
set_option linter.unusedSimpArgs false
open Go.RowKit

theorem HP.frozen {w : World} {h ob base g n cap : Nat} {o : Int} {xs : List Nm} (H : HP w h ob base o (.slice (some ⟨g, 0, none⟩) n cap) xs) (hl : 0 < xs.length) (j : Nat) : w.frozen? ⟨g, j, none⟩ = false := by
  obtain ⟨g9, c9, r9, e9, -, -, -, hrow9⟩ := H.view hl
  injection e9 with e9
  injection e9 with e9
  injection e9 with e9
  subst e9
  exact hrow9.frozen j
theorem wrap_in {x : Int} (h0 : 0 ≤ x) (h1 : x < 4611686018427387904) : IntKind.i64.wrap x = x := by
  simp only [IntKind.wrap, IntKind.bits, IntKind.signed]; simp; split <;> omega
theorem RowAt.like {w w' : World} {g : Nat} {T : TypeId} {cs : List Value} (h : RowAt w g T cs) (e : w'.heap = w.heap) : RowAt w' g T cs := by
  unfold RowAt
  rw [e]
  exact h
theorem HP.like {w w' : World} {h ob base : Nat} {v : Value} {o : Int} {xs : List Nm} (H : HP w h ob base o v xs) (e : w'.heap = w.heap) : HP w' h ob base o v xs := by
  refine ⟨RowAt.like H.head e, RowAt.like H.ord e, ?_⟩
  obtain ⟨h1, h2⟩ := H.own
  refine ⟨h1, h2.imp id fun ⟨g, cap, cur, q1, q2, q3, q4⟩ => ⟨g, cap, cur, q1, q2, ?_, q4⟩⟩
  rw [e]
  exact q3
theorem Turn.like {S : Nat → Prop} {a w w' : World} (h : Turn S a w) (e : w'.heap = w.heap) (e1 : w'.os = w.os) (e2 : w'.tape = w.tape) (e3 : w'.output = w.output) : Turn S a w' :=
  ⟨by rw [e1]; exact h.os, by rw [e2]; exact h.tape, by rw [e3]; exact h.output, by rw [e]; exact h.size, fun k hk hn => by rw [e]; exact h.block k hk hn⟩
/-- The last is let go. -/
theorem HP.cut {w : World} {h ob base g n cap : Nat} {o : Int} {xs : List Nm} (H : HP w h ob base o (.slice (some ⟨g, 0, none⟩) (n + 1) cap) xs) (hl : xs.length = n + 1) :
    HP (w.setCell ⟨h, 0, none⟩ (.slice (some ⟨g, 0, none⟩) n cap)) h ob base o (.slice (some ⟨g, 0, none⟩) n cap) (xs.take n) := by
  have hf := H.far g rfl
  refine ⟨H.head.set 0 _, H.ord.far (H.ord.ne H.head (by decide)) _, ?_⟩
  have o2 : Own w base 74 8 Nm.cells (.slice (some ⟨g, 0, none⟩) n cap) (xs.take n) := by
    obtain ⟨h1, h2⟩ := H.own
    refine ⟨by rw [flat_length Nm.len], ?_⟩
    rcases h2 with ⟨e, -⟩ | ⟨g', cap', cur, e, hb, hh, hl', hm, hc, htk⟩
    · simp at e
    · injection e with e1 e2 e3
      injection e1 with e1
      injection e1 with e1
      subst e1
      subst e3
      have hln : (xs.take n).length = n := by rw [List.length_take]; omega
      refine .inr ⟨g, cap, cur, by rw [hln], hb, hh, by rw [hln]; omega, hm, hc, ?_⟩
      rw [hln]
      have e9 : (xs.take n).flatMap Nm.cells = (xs.flatMap Nm.cells).take (n * 8) := by
        have e8 := congrArg (List.take (n * 8)) (congrArg (List.flatMap Nm.cells) (List.take_append_drop n xs)).symm
        rw [e8, List.flatMap_append, List.take_append_of_le_length (by rw [flat_length Nm.len, hln]; exact Nat.le_refl _), List.take_of_length_le (l := (xs.take n).flatMap Nm.cells) (i := n * 8) (by rw [flat_length Nm.len, hln]; exact Nat.le_refl _)]
      rw [e9, ← htk, List.take_take]
      rw [show min (n * 8) (xs.length * 8) = n * 8 by rw [hl]; omega]
  exact o2.turn (S := fun b => b = h) (Turn.setCell (S := fun b => b = h) (p := ⟨h, 0, none⟩) (Turn.refl _ _) (.inl rfl) _) fun k hk e => by
    have := Option.some.inj hk
    exact hf.1 (this.trans e)
def PoPost (h ob base g N cap : Nat) (o : Int) (x : Nm) (ys : List Nm) (w : World) (e : Ending) (w' : World) : Prop :=
  e = .returned (.agg x.cells.toArray) ∧ HP w' h ob base o (.slice (some ⟨g, 0, none⟩) N cap) ys ∧ Turn (fun b => b = h ∨ b = g) w w'
set_option maxRecDepth 100000 in
set_option maxHeartbeats 12800000 in
theorem pop_any (h ob base g N cap : Nat) (o : Int) (ho : o = 1 ∨ o = 2) (xs : List Nm) (w : World) (H : HP w h ob base o (.slice (some ⟨g, 0, none⟩) (N + 1) cap) xs) (hn : N < 16777216) (hl : xs.length = N + 1) :
    Calls Try.prog 37 #[.pointer (some ⟨h, 0, none⟩)] w (PoPost h ob base g N cap o (gt Nm.zero xs 0) (popped Nm.zero (ltN o) xs) w) := by
  have HH := Lib.hid H
  have HL := Lib.hid hl
  have hhl := H.head.lt
  have hgl := (H.own.base g rfl).2
  obtain ⟨_, hcap⟩ : (N + 1 ≤ cap) ∧ cap ≤ maxLen := by
    obtain ⟨g9, c9, r9, e9, -, e8, e7, -⟩ := H.view (by omega)
    injection e9 with e9 e10 e11
    subst e11
    exact ⟨by omega, e7⟩
  obtain ⟨x0, x1, x2, x3, x4, x5, x6, x7⟩ := nm_at (H.cells rfl (i := 0) (by omega))
  obtain ⟨y0, y1, y2, y3, y4, y5, y6, y7⟩ := nm_at (H.cells rfl (i := N) (by omega))
  have hh0 := H.head.cell 0
  have hh1 := H.head.cell 1
  have hff := H.frozen (by omega)
  have hfh := H.head.frozen 0
  simp only [List.getElem?_cons_zero, List.getElem?_cons_succ, Nat.zero_mul, Nat.zero_add] at hh0 hh1 x0 x1 x2 x3 x4 x5 x6 x7
  obtain ⟨tp, htp⟩ : ∃ y, y = gt Nm.zero xs 0 := ⟨_, rfl⟩
  obtain ⟨la, hla⟩ : ∃ y, y = gt Nm.zero xs N := ⟨_, rfl⟩
  rw [← htp] at x0 x1 x2 x3 x4 x5 x6 x7 ⊢
  rw [← hla] at y0 y1 y2 y3 y4 y5 y6 y7
  obtain ⟨tg, htg⟩ : ∃ t, t = popped Nm.zero (ltN o) xs := ⟨_, rfl⟩
  rw [← htg]
  have HTG := Lib.hid htg
  have HLA := Lib.hid hla
  clear htp hla htg H hl
  obtain ⟨⟨kx, tx, sx, ix, fx, ox, bx⟩, ax⟩ := tp
  obtain ⟨⟨ky, ty, sy, iy, fy, oy, bsy⟩, ay⟩ := la
  have hN0 : (0 : Int) ≤ (N : Int) := by omega
  have hN1 : (N : Int) < (N : Int) + 1 := by omega
  simp only [Nm.cells] at x0 x1 x2 x3 x4 x5 x6 x7 y0 y1 y2 y3 y4 y5 y6 y7 ⊢
  go_enter Try.func37, Try.ntmps37
  go_wp2_with fail
  have RA := Lib.hid ((RowAt.new w 74 Nm.zero.cells).alloc (.cells (Nm.cells ⟨⟨kx, tx, sx, ix, fx, ox, bx⟩, ax⟩).toArray 74))
  have RB := Lib.hid (RowAt.new' (w.alloc (.cells Nm.zero.cells.toArray 74)) (w.heap.size + 1) 74 (Nm.cells ⟨⟨kx, tx, sx, ix, fx, ox, bx⟩, ax⟩) (by simp))
  have BB := Lib.hid (((Below.refl w.heap.size w).alloc (Nat.le_refl _) (.cells Nm.zero.cells.toArray 74)).alloc (by simp) (.cells (Nm.cells ⟨⟨kx, tx, sx, ix, fx, ox, bx⟩, ax⟩).toArray 74))
  have H2 := Lib.hid (HH.out.below BB.out)
  have hW : (w.alloc (.cells #[.int .i64 0, .int .i64 0, .int .i64 0, .int .i64 0, .int .i64 0, .int .i64 0, .string ⟨#[]⟩, .int .i64 0] 74)).alloc (.cells #[.int .i64 kx, .int .i64 tx, .int .i64 sx, .int .i64 ix, .int .i64 fx, .int .i64 ox, .string bx, .int .i64 ax] 74) = ((w.alloc (.cells Nm.zero.cells.toArray 74)).alloc (.cells (Nm.cells ⟨⟨kx, tx, sx, ix, fx, ox, bx⟩, ax⟩).toArray 74)) := rfl
  rw [hW]
  clear hW
  generalize (w.alloc (.cells Nm.zero.cells.toArray 74)).alloc (.cells (Nm.cells ⟨⟨kx, tx, sx, ix, fx, ox, bx⟩, ax⟩).toArray 74) = W2 at RA RB BB H2 ⊢
  have hs2 := BB.out.size
  have hla2 := H2.out.head.lt
  clear hh0 hh1 x0 x1 x2 x3 x4 x5 x6 x7 y0 y1 y2 y3 y4 y5 y6 y7 hff hfh
  obtain ⟨x0, x1, x2, x3, x4, x5, x6, x7⟩ := nm_at (H2.out.cells rfl (i := 0) (by rw [HL.out]; omega))
  obtain ⟨y0, y1, y2, y3, y4, y5, y6, y7⟩ := nm_at (H2.out.cells rfl (i := N) (by rw [HL.out]; omega))
  rw [← HLA.out] at y0 y1 y2 y3 y4 y5 y6 y7
  have hh0 := H2.out.head.cell 0
  have hff := H2.out.frozen (by rw [HL.out]; omega)
  simp only [List.getElem?_cons_zero, List.getElem?_cons_succ, Nat.zero_mul, Nat.zero_add, Nm.cells] at hh0 x0 x1 x2 x3 x4 x5 x6 x7 y0 y1 y2 y3 y4 y5 y6 y7
  go_region
  have h3 := (H2.out.put (i := 0) (by rw [HL.out]; omega) ⟨⟨ky, ty, sy, iy, fy, oy, bsy⟩, ay⟩).drew
  have h4 := h3.cut (by rw [List.length_set]; exact HL.out)
  have e4 : (xs.set 0 ⟨⟨ky, ty, sy, iy, fy, oy, bsy⟩, ay⟩).take N = (xs.set 0 (gt Nm.zero xs (xs.length - 1))).take (xs.length - 1) := by rw [HLA.out, HL.out]; rfl
  have t3 : Turn (fun b => b = h ∨ b = g) w (((wset W2 g (0 * 8) (Nm.cells ⟨⟨ky, ty, sy, iy, fy, oy, bsy⟩, ay⟩)).drew).setCell ⟨h, 0, none⟩ (.slice (some ⟨g, 0, none⟩) N cap)) :=
    (Turn.wset (S := fun b => b = h ∨ b = g) (.inl (.inr rfl)) _ _ (Turn.of_below BB.out _)).drew.setCell (.inl (.inl rfl)) _
  have t23 : Turn (fun b => b = h ∨ b = g) W2 (((wset W2 g (0 * 8) (Nm.cells ⟨⟨ky, ty, sy, iy, fy, oy, bsy⟩, ay⟩)).drew).setCell ⟨h, 0, none⟩ (.slice (some ⟨g, 0, none⟩) N cap)) :=
    (Turn.wset (S := fun b => b = h ∨ b = g) (.inl (.inr rfl)) _ _ (Turn.refl _ _)).drew.setCell (.inl (.inl rfl)) _
  have ra := RA.out.turn t23 (fun e => by omega)
  have rb := RB.out.turn t23 (fun e => by omega)
  have hl4 : ((xs.set 0 ⟨⟨ky, ty, sy, iy, fy, oy, bsy⟩, ay⟩).take N).length = N := by rw [List.length_take, List.length_set, HL.out]; omega
  have hd4 : down Nm.zero (ltN o) (N + 1) ((xs.set 0 ⟨⟨ky, ty, sy, iy, fy, oy, bsy⟩, ay⟩).take N) 0 = tg := by rw [HTG.out, popped, e4, HL.out]
  have h3c := h3.head.cell 0
  have h3f := h3.head.frozen 0
  have H4 := Lib.hid h4
  have T4 := Lib.hid t3
  have RA4 := Lib.hid ra
  have RB4 := Lib.hid rb
  have HL4 := Lib.hid hl4
  have HD4 := Lib.hid hd4
  have hW3 : (((((((((W2).setCell ⟨g, 0, none⟩ (.int .i64 ky)).setCell ⟨g, 1, none⟩ (.int .i64 ty)).setCell ⟨g, 2, none⟩ (.int .i64 sy)).setCell ⟨g, 3, none⟩ (.int .i64 iy)).setCell ⟨g, 4, none⟩ (.int .i64 fy)).setCell ⟨g, 5, none⟩ (.int .i64 oy)).setCell ⟨g, 6, none⟩ (.string bsy)).setCell ⟨g, 7, none⟩ (.int .i64 ay)).drew = (wset W2 g (0 * 8) (Nm.cells ⟨⟨ky, ty, sy, iy, fy, oy, bsy⟩, ay⟩)).drew := rfl
  rw [hW3]
  clear hW3
  generalize (wset W2 g (0 * 8) (Nm.cells ⟨⟨ky, ty, sy, iy, fy, oy, bsy⟩, ay⟩)).drew = W3 at H4 T4 RA4 RB4 h3c h3f ⊢
  generalize (xs.set 0 ⟨⟨ky, ty, sy, iy, fy, oy, bsy⟩, ay⟩).take N = ys0 at H4 HL4 HD4
  clear h3 h4 t3 t23 ra rb hl4 hd4 e4 x0 x1 x2 x3 x4 x5 x6 x7 y0 y1 y2 y3 y4 y5 y6 y7 hh0 hff
  go_wp2
  go_loopw [5] (fun v wr => ∃ (i : Nat) (ys : List Nm) (m : Nat), v = .int .i64 i ∧ Hid (ys.length = N) ∧ N ≤ i + m ∧ i ≤ N ∧ Hid (HP wr h ob base o (.slice (some ⟨g, 0, none⟩) N cap) ys) ∧ Hid (down Nm.zero (ltN o) m ys i = tg) ∧ Hid (Turn (fun b => b = h ∨ b = g) w wr) ∧ Hid (RowAt wr w.heap.size 74 Nm.zero.cells) ∧ Hid (RowAt wr (w.heap.size + 1) 74 (Nm.cells ⟨⟨kx, tx, sx, ix, fx, ox, bx⟩, ax⟩))) (fun v _ => N - (intOf v).toNat)
  case atStart => exact ⟨0, ys0, N + 1, rfl, HL4.out, by omega, by omega, H4.out, HD4.out, T4.out, RA4.out, RB4.out⟩
  case round =>
    clear H4 T4 RA4 RB4 HD4 HL4 h3c h3f RA RB BB H2 hs2 hla2
    obtain ⟨i, ys, m, rfl, HL5, him, hiN, HP5, HD5, T5, RA5, RB5⟩ := hrel
    have hhl2 := HP5.out.head.lt
    have hol2 := HP5.out.ord.lt
    have hgl2 := (HP5.out.own.base g rfl).2
    have hoob := HH.out.ord.lt
    obtain ⟨k1, hk1⟩ : ∃ k, k = 2 * i + 1 := ⟨_, rfl⟩
    have HK1I := Lib.hid (show 2 * (i : Int) + 1 = (k1 : Int) by omega)
    have hk1b : k1 < 33554433 := by omega
    have hk1w : IntKind.i64.wrap ((k1 : Int) + 1) = (k1 : Int) + 1 := wrap_in (by omega) (by omega)
    have hik1 : i < k1 := by omega
    have HK1 := Lib.hid hk1
    clear hk1
    have hk1z : (0 : Int) ≤ (k1 : Int) := by omega
    have hiz : (0 : Int) ≤ (i : Int) := by omega
    by_cases hex : N ≤ k1
    · have hd : decide ((N : Int) ≤ 2 * (i : Int) + 1) = true := decide_eq_true (by have := HK1.out; omega)
      have hexn : N ≤ 2 * i + 1 := by have := HK1.out; omega
      have E9 := Lib.hid (show ys = tg by
        rw [← HD5.out]
        cases m with
        | zero => rfl
        | succ m => rw [down, if_pos (by rw [HL5.out]; omega)])
      have rb := RB5.out
      obtain ⟨b0, b1, b2, b3, b4, b5, b6, b7⟩ : _ ∧ _ ∧ _ ∧ _ ∧ _ ∧ _ ∧ _ ∧ _ := ⟨rb.cell 0, rb.cell 1, rb.cell 2, rb.cell 3, rb.cell 4, rb.cell 5, rb.cell 6, rb.cell 7⟩
      have ca := RA5.out.cell
      have cf := RA5.out.frozen
      simp only [List.getElem?_cons_zero, List.getElem?_cons_succ, Nm.cells] at b0 b1 b2 b3 b4 b5 b6 b7
      simp only [Nm.cells, Nm.zero, Row.zero] at ca
      clear rb
      go_wp2
      have r0 := (RA5.out.wset (Nm.cells ⟨⟨kx, tx, sx, ix, fx, ox, bx⟩, ax⟩) 0).congr (cs' := Nm.cells ⟨⟨kx, tx, sx, ix, fx, ox, bx⟩, ax⟩) rfl
      have hp9 := HP5.out.turn (Turn.wset (S := fun b => b = w.heap.size) (a := _) (g := w.heap.size) (.inl rfl) (Nm.cells ⟨⟨kx, tx, sx, ix, fx, ox, bx⟩, ax⟩) 0 (Turn.refl _ _)) (fun e => by omega) (fun e => by omega) (fun b hb e => by have h9 : g = b := Option.some.inj hb; have h8 : b = w.heap.size := e; omega)
      have t9 := Turn.wset (S := fun b => b = h ∨ b = g) (a := w) (g := w.heap.size) (.inr (Nat.le_refl _)) (Nm.cells ⟨⟨kx, tx, sx, ix, fx, ox, bx⟩, ax⟩) 0 T5.out
      refine bodyPost_ret (results_c Try.results37 _ rfl r0 Try.underlying74 rfl (by kernel_rfl)) rfl ⟨rfl, ?_, t9⟩
      rw [← E9.out]
      exact hp9
    · have hd : decide ((N : Int) ≤ 2 * (i : Int) + 1) = false := decide_eq_false (by have := HK1.out; omega)
      have hexn : ¬ (N ≤ 2 * i + 1) := by have := HK1.out; omega
      obtain ⟨m, rfl⟩ : ∃ q, m = q + 1 := ⟨m - 1, by omega⟩
      have hk1N : (k1 : Int) < (N : Int) := by omega
      have hiN2 : (i : Int) < (N : Int) := by omega
      go_upto_if 45 with fail
      go_step
      go_step
      go_step
      go_step
      go_step
      rw [HK1I.out]
      go_cut [6] from 47 to 74 (fun v wc => ∃ kk : Nat, v = .int .i64 kk ∧ Hid (kk = kid Nm.zero (ltN o) ys i) ∧ i < kk ∧ kk < N ∧ Hid (HP wc h ob base o (.slice (some ⟨g, 0, none⟩) N cap) ys) ∧ Hid (Turn (fun b => b = h ∨ b = g) w wc) ∧ Hid (RowAt wc w.heap.size 74 Nm.zero.cells) ∧ Hid (RowAt wc (w.heap.size + 1) 74 (Nm.cells ⟨⟨kx, tx, sx, ix, fx, ox, bx⟩, ax⟩)))
      case first =>
        have hh0 := HP5.out.head.cell 0
        have hh1 := HP5.out.head.cell 1
        simp only [List.getElem?_cons_zero, List.getElem?_cons_succ] at hh0 hh1
        by_cases h2 : k1 + 1 < N
        · have hd2 : decide ((k1 : Int) + 1 < (N : Int)) = true := decide_eq_true (by omega)
          have hd2n : decide (k1 + 1 < N) = true := decide_eq_true (by omega)
          have hk2N : (k1 : Int) + 1 < (N : Int) := by omega
          have hk2z : (0 : Int) ≤ (k1 : Int) + 1 := by omega
          obtain ⟨yq, hyq⟩ : ∃ y, y = gt Nm.zero ys k1 := ⟨_, rfl⟩
          obtain ⟨yr, hyr⟩ : ∃ y, y = gt Nm.zero ys (k1 + 1) := ⟨_, rfl⟩
          obtain ⟨q0, q1, q2, q3, q4, q5, q6, q7⟩ := nm_at (HP5.out.cells rfl (i := k1) (by rw [HL5.out]; omega))
          obtain ⟨r0, r1, r2, r3, r4, r5, r6, r7⟩ := nm_at (HP5.out.cells rfl (i := k1 + 1) (by rw [HL5.out]; omega))
          rw [← hyq] at q0 q1 q2 q3 q4 q5 q6 q7
          rw [← hyr] at r0 r1 r2 r3 r4 r5 r6 r7
          have HYQ := Lib.hid hyq
          have HYR := Lib.hid hyr
          obtain ⟨⟨kq, tq, sq, iq, fq, oq, bq⟩, aq⟩ := yq
          obtain ⟨⟨kr, tr, sr, ir, fr, or9, br⟩, ar⟩ := yr
          clear hyq hyr
          simp only at q0 q1 q2 q3 q4 q5 q6 q7 r0 r1 r2 r3 r4 r5 r6 r7
          obtain ⟨l0, hl0⟩ : ∃ l, l = ltN o ⟨⟨kr, tr, sr, ir, fr, or9, br⟩, ar⟩ ⟨⟨kq, tq, sq, iq, fq, oq, bq⟩, aq⟩ := ⟨_, rfl⟩
          have HL0 := Lib.hid hl0
          clear hl0
          go_wp2_with fail
          go_region_held3 (fun w' => w'.cell? ⟨h, 0, none⟩ = some (.slice (some ⟨g, 0, none⟩) N cap) ∧ w'.cell? ⟨h, 1, none⟩ = some (lessV ob) ∧ w'.cell? ⟨g, (k1 + 1) * 8, none⟩ = some (.int .i64 kr) ∧ w'.cell? ⟨g, (k1 + 1) * 8 + 1, none⟩ = some (.int .i64 tr) ∧ w'.cell? ⟨g, (k1 + 1) * 8 + 2, none⟩ = some (.int .i64 sr) ∧ w'.cell? ⟨g, (k1 + 1) * 8 + 3, none⟩ = some (.int .i64 ir) ∧ w'.cell? ⟨g, (k1 + 1) * 8 + 4, none⟩ = some (.int .i64 fr) ∧ w'.cell? ⟨g, (k1 + 1) * 8 + 5, none⟩ = some (.int .i64 or9) ∧ w'.cell? ⟨g, (k1 + 1) * 8 + 6, none⟩ = some (.string br) ∧ w'.cell? ⟨g, (k1 + 1) * 8 + 7, none⟩ = some (.int .i64 ar) ∧ w'.cell? ⟨g, k1 * 8, none⟩ = some (.int .i64 kq) ∧ w'.cell? ⟨g, k1 * 8 + 1, none⟩ = some (.int .i64 tq) ∧ w'.cell? ⟨g, k1 * 8 + 2, none⟩ = some (.int .i64 sq) ∧ w'.cell? ⟨g, k1 * 8 + 3, none⟩ = some (.int .i64 iq) ∧ w'.cell? ⟨g, k1 * 8 + 4, none⟩ = some (.int .i64 fq) ∧ w'.cell? ⟨g, k1 * 8 + 5, none⟩ = some (.int .i64 oq) ∧ w'.cell? ⟨g, k1 * 8 + 6, none⟩ = some (.string bq) ∧ w'.cell? ⟨g, k1 * 8 + 7, none⟩ = some (.int .i64 aq))
            (first | exact ⟨hh0, hh1, r0, r1, r2, r3, r4, r5, r6, r7, q0, q1, q2, q3, q4, q5, q6, q7⟩ | exact ⟨(cp _ _ hhl2).trans hh0, (cp _ _ hhl2).trans hh1, (cp _ _ hgl2).trans r0, (cp _ _ hgl2).trans r1, (cp _ _ hgl2).trans r2, (cp _ _ hgl2).trans r3, (cp _ _ hgl2).trans r4, (cp _ _ hgl2).trans r5, (cp _ _ hgl2).trans r6, (cp _ _ hgl2).trans r7, (cp _ _ hgl2).trans q0, (cp _ _ hgl2).trans q1, (cp _ _ hgl2).trans q2, (cp _ _ hgl2).trans q3, (cp _ _ hgl2).trans q4, (cp _ _ hgl2).trans q5, (cp _ _ hgl2).trans q6, (cp _ _ hgl2).trans q7⟩)
            (first | (go_at_call 35; refine (less_any o ho ⟨⟨kr, tr, sr, ir, fr, or9, br⟩, ar⟩ ⟨⟨kq, tq, sq, iq, fq, oq, bq⟩, aq⟩ ob _ (HP.ord (HP.like HP5.out (by rfl)))).mono ?_; rintro e6 w6a ⟨rfl, hb6⟩; rw [← HL0.out]; have cp : ∀ b j, b < wr.heap.size → w6a.cell? ⟨b, j, none⟩ = wr.cell? ⟨b, j, none⟩ := fun b j hlt => World.cell?_of_block (w := wr) (hb6.block b hlt); have HP6a := Lib.hid (HP.below (HP.like HP5.out (by rfl)) hb6); have T6a := Lib.hid (Turn.trans (Turn.like T5.out (by rfl) (by rfl) (by rfl) (by rfl)) (Turn.of_below hb6 _)); have RA6a := Lib.hid (RowAt.below (RowAt.like RA5.out (by rfl)) hb6); have RB6a := Lib.hid (RowAt.below (RowAt.like RB5.out (by rfl)) hb6); clear hb6))
          cases l0 with
          | true =>
            have HKD := Lib.hid (show k1 + 1 = kid Nm.zero (ltN o) ys i by
              have h1 := HK1.out
              unfold kid
              rw [show 2 * i + 2 = k1 + 1 by omega, show 2 * i + 1 = k1 by omega, ← HYR.out, ← HYQ.out, if_pos ⟨by rw [HL5.out]; omega, HL0.out.symm⟩])
            clear q0 q1 q2 q3 q4 q5 q6 q7 r0 r1 r2 r3 r4 r5 r6 r7 cp hh0 hh1
            go_wp2_with fail
            go_meet
            case rel => exact ⟨k1 + 1, by go_num, HKD.out, by omega, by omega, HP6a.out, T6a.out, RA6a.out, RB6a.out⟩
          | false =>
            have HKD := Lib.hid (show k1 = kid Nm.zero (ltN o) ys i by
              have h1 := HK1.out
              unfold kid
              rw [show 2 * i + 2 = k1 + 1 by omega, show 2 * i + 1 = k1 by omega, ← HYR.out, ← HYQ.out, if_neg (fun hh => by have h9 := hh.2; rw [← HL0.out] at h9; exact absurd h9 (by decide))])
            clear q0 q1 q2 q3 q4 q5 q6 q7 r0 r1 r2 r3 r4 r5 r6 r7 cp hh0 hh1
            go_wp2_with fail
            go_meet
            case rel => exact ⟨k1, rfl, HKD.out, by omega, by omega, HP6a.out, T6a.out, RA6a.out, RB6a.out⟩
        · have hd2 : decide ((k1 : Int) + 1 < (N : Int)) = false := decide_eq_false (by omega)
          have hd2n : decide (k1 + 1 < N) = false := decide_eq_false (by omega)
          have HKD := Lib.hid (show k1 = kid Nm.zero (ltN o) ys i by
            unfold kid
            rw [if_neg (by have := HK1.out; rw [HL5.out]; omega)]
            exact HK1.out)
          clear hh0 hh1
          go_wp2_with fail
          go_quiet (fail)
          go_wp2_with fail
          go_meet
          case rel => exact ⟨k1, by first | rfl | go_num, HKD.out, by omega, by omega, HP.like HP5.out (by rfl), Turn.like T5.out (by rfl) (by rfl) (by rfl) (by rfl), RowAt.like RA5.out (by rfl), RowAt.like RB5.out (by rfl)⟩

      case rest =>
        obtain ⟨kk, rfl, HKK, hik, hkN, HPc, Tc, RAc, RBc⟩ := hcut
        have HEX := Lib.hid hexn
        clear HP5 T5 RA5 RB5 hhl2 hol2 hgl2 hk1w hk1b hik1 hk1z HK1 HK1I hk1N hexn hd
        have hhl2 := HPc.out.head.lt
        have hgl2 := (HPc.out.own.base g rfl).2
        have hkz : (0 : Int) ≤ (kk : Int) := by omega
        have hkN2 : (kk : Int) < (N : Int) := by omega
        have hh0 := HPc.out.head.cell 0
        have hh1 := HPc.out.head.cell 1
        simp only [List.getElem?_cons_zero, List.getElem?_cons_succ] at hh0 hh1
        obtain ⟨yp, hyp⟩ : ∃ y, y = gt Nm.zero ys i := ⟨_, rfl⟩
        obtain ⟨yq, hyq⟩ : ∃ y, y = gt Nm.zero ys kk := ⟨_, rfl⟩
        obtain ⟨p0, p1, p2, p3, p4, p5, p6, p7⟩ := nm_at (HPc.out.cells rfl (i := i) (by rw [HL5.out]; omega))
        obtain ⟨q0, q1, q2, q3, q4, q5, q6, q7⟩ := nm_at (HPc.out.cells rfl (i := kk) (by rw [HL5.out]; omega))
        rw [← hyp] at p0 p1 p2 p3 p4 p5 p6 p7
        rw [← hyq] at q0 q1 q2 q3 q4 q5 q6 q7
        have HYP := Lib.hid hyp
        have HYQ := Lib.hid hyq
        obtain ⟨⟨kp, tp, sp, ip, fp, op, bp⟩, ap⟩ := yp
        obtain ⟨⟨kq, tq, sq, iq, fq, oq, bq⟩, aq⟩ := yq
        clear hyp hyq
        simp only at p0 p1 p2 p3 p4 p5 p6 p7 q0 q1 q2 q3 q4 q5 q6 q7
        obtain ⟨l1, hl1⟩ : ∃ l, l = ltN o ⟨⟨kq, tq, sq, iq, fq, oq, bq⟩, aq⟩ ⟨⟨kp, tp, sp, ip, fp, op, bp⟩, ap⟩ := ⟨_, rfl⟩
        have HL1 := Lib.hid hl1
        clear hl1
        have HE := Lib.hid (show down Nm.zero (ltN o) (m + 1) ys i = if ltN o ⟨⟨kq, tq, sq, iq, fq, oq, bq⟩, aq⟩ ⟨⟨kp, tp, sp, ip, fp, op, bp⟩, ap⟩ = true then down Nm.zero (ltN o) m (swp Nm.zero ys i kk) kk else ys from by
          rw [down, if_neg (by have := HEX.out; rw [HL5.out]; omega), ← HKK.out, ← HYP.out, ← HYQ.out])
        go_wp2_with fail
        go_region_held3 (fun w' => w'.cell? ⟨h, 0, none⟩ = some (.slice (some ⟨g, 0, none⟩) N cap) ∧ w'.cell? ⟨h, 1, none⟩ = some (lessV ob) ∧ w'.cell? ⟨g, kk * 8, none⟩ = some (.int .i64 kq) ∧ w'.cell? ⟨g, kk * 8 + 1, none⟩ = some (.int .i64 tq) ∧ w'.cell? ⟨g, kk * 8 + 2, none⟩ = some (.int .i64 sq) ∧ w'.cell? ⟨g, kk * 8 + 3, none⟩ = some (.int .i64 iq) ∧ w'.cell? ⟨g, kk * 8 + 4, none⟩ = some (.int .i64 fq) ∧ w'.cell? ⟨g, kk * 8 + 5, none⟩ = some (.int .i64 oq) ∧ w'.cell? ⟨g, kk * 8 + 6, none⟩ = some (.string bq) ∧ w'.cell? ⟨g, kk * 8 + 7, none⟩ = some (.int .i64 aq) ∧ w'.cell? ⟨g, i * 8, none⟩ = some (.int .i64 kp) ∧ w'.cell? ⟨g, i * 8 + 1, none⟩ = some (.int .i64 tp) ∧ w'.cell? ⟨g, i * 8 + 2, none⟩ = some (.int .i64 sp) ∧ w'.cell? ⟨g, i * 8 + 3, none⟩ = some (.int .i64 ip) ∧ w'.cell? ⟨g, i * 8 + 4, none⟩ = some (.int .i64 fp) ∧ w'.cell? ⟨g, i * 8 + 5, none⟩ = some (.int .i64 op) ∧ w'.cell? ⟨g, i * 8 + 6, none⟩ = some (.string bp) ∧ w'.cell? ⟨g, i * 8 + 7, none⟩ = some (.int .i64 ap))
          (first | exact ⟨hh0, hh1, q0, q1, q2, q3, q4, q5, q6, q7, p0, p1, p2, p3, p4, p5, p6, p7⟩ | exact ⟨(cp _ _ hhl2).trans hh0, (cp _ _ hhl2).trans hh1, (cp _ _ hgl2).trans q0, (cp _ _ hgl2).trans q1, (cp _ _ hgl2).trans q2, (cp _ _ hgl2).trans q3, (cp _ _ hgl2).trans q4, (cp _ _ hgl2).trans q5, (cp _ _ hgl2).trans q6, (cp _ _ hgl2).trans q7, (cp _ _ hgl2).trans p0, (cp _ _ hgl2).trans p1, (cp _ _ hgl2).trans p2, (cp _ _ hgl2).trans p3, (cp _ _ hgl2).trans p4, (cp _ _ hgl2).trans p5, (cp _ _ hgl2).trans p6, (cp _ _ hgl2).trans p7⟩)
          (first | (go_at_call 35; refine (less_any o ho ⟨⟨kq, tq, sq, iq, fq, oq, bq⟩, aq⟩ ⟨⟨kp, tp, sp, ip, fp, op, bp⟩, ap⟩ ob _ (HP.ord (HP.like HPc.out (by rfl)))).mono ?_; rintro e6 w6d ⟨rfl, hb6⟩; rw [← HL1.out]; have cp : ∀ b j, b < wc.heap.size → w6d.cell? ⟨b, j, none⟩ = wc.cell? ⟨b, j, none⟩ := fun b j hlt => World.cell?_of_block (w := wc) (hb6.block b hlt); have HP6d := Lib.hid (HP.below (HP.like HPc.out (by rfl)) hb6); have T6d := Lib.hid (Turn.trans (Turn.like Tc.out (by rfl) (by rfl) (by rfl) (by rfl)) (Turn.of_below hb6 _)); have RA6d := Lib.hid (RowAt.below (RowAt.like RAc.out (by rfl)) hb6); have RB6d := Lib.hid (RowAt.below (RowAt.like RBc.out (by rfl)) hb6); clear hb6))
        cases l1 with
        | false =>
          have e := HE.out.symm.trans HD5.out
          rw [if_neg (by rw [← HL1.out]; decide)] at e
          have E9 := Lib.hid e
          clear e cp
          have rb := RB6d.out
          obtain ⟨b0, b1, b2, b3, b4, b5, b6, b7⟩ : _ ∧ _ ∧ _ ∧ _ ∧ _ ∧ _ ∧ _ ∧ _ := ⟨rb.cell 0, rb.cell 1, rb.cell 2, rb.cell 3, rb.cell 4, rb.cell 5, rb.cell 6, rb.cell 7⟩
          have ca := RA6d.out.cell
          have cf := RA6d.out.frozen
          simp only [List.getElem?_cons_zero, List.getElem?_cons_succ, Nm.cells] at b0 b1 b2 b3 b4 b5 b6 b7
          simp only [Nm.cells, Nm.zero, Row.zero] at ca
          clear rb p0 p1 p2 p3 p4 p5 p6 p7 q0 q1 q2 q3 q4 q5 q6 q7 hh0 hh1
          go_wp2
          have r0 := (RA6d.out.wset (Nm.cells ⟨⟨kx, tx, sx, ix, fx, ox, bx⟩, ax⟩) 0).congr (cs' := Nm.cells ⟨⟨kx, tx, sx, ix, fx, ox, bx⟩, ax⟩) rfl
          have hp9 := HP6d.out.turn (Turn.wset (S := fun b => b = w.heap.size) (a := _) (g := w.heap.size) (.inl rfl) (Nm.cells ⟨⟨kx, tx, sx, ix, fx, ox, bx⟩, ax⟩) 0 (Turn.refl _ _)) (fun e => by omega) (fun e => by omega) (fun b hb e => by have h9 : g = b := Option.some.inj hb; have h8 : b = w.heap.size := e; omega)
          have t9 := Turn.wset (S := fun b => b = h ∨ b = g) (a := w) (g := w.heap.size) (.inr (Nat.le_refl _)) (Nm.cells ⟨⟨kx, tx, sx, ix, fx, ox, bx⟩, ax⟩) 0 T6d.out
          refine bodyPost_ret (results_c Try.results37 _ rfl r0 Try.underlying74 rfl (by kernel_rfl)) rfl ⟨rfl, ?_, t9⟩
          rw [← E9.out]
          exact hp9
        | true =>
          have e := HE.out.symm.trans HD5.out
          rw [if_pos HL1.out.symm] at e
          have z0 := (cp _ 0 hhl2).trans hh0
          obtain ⟨P0, P1, P2, P3, P4, P5, P6, P7⟩ := nm_at (HP6d.out.cells rfl (i := i) (by rw [HL5.out]; omega))
          obtain ⟨K0, K1, K2, K3, K4, K5, K6, K7⟩ := nm_at (HP6d.out.cells rfl (i := kk) (by rw [HL5.out]; omega))
          rw [← HYP.out] at P0 P1 P2 P3 P4 P5 P6 P7
          rw [← HYQ.out] at K0 K1 K2 K3 K4 K5 K6 K7
          have hfz := HP6d.out.frozen (by rw [HL5.out]; omega)
          simp only at P0 P1 P2 P3 P4 P5 P6 P7 K0 K1 K2 K3 K4 K5 K6 K7
          clear hh0 hh1 cp p0 p1 p2 p3 p4 p5 p6 p7 q0 q1 q2 q3 q4 q5 q6 q7
          go_wp2_with fail
          go_cut [] from 96 to 121 (fun wc => Hid (HP wc h ob base o (.slice (some ⟨g, 0, none⟩) N cap) (swp Nm.zero ys i kk)) ∧ Hid (Turn (fun b => b = h ∨ b = g) w wc) ∧ Hid (RowAt wc w.heap.size 74 Nm.zero.cells) ∧ Hid (RowAt wc (w.heap.size + 1) 74 (Nm.cells ⟨⟨kx, tx, sx, ix, fx, ox, bx⟩, ax⟩)))
          case first =>
            rename_i JJ KK hJJ hKK
            go_region
            have hp7 := ((HP6d.out.put (i := i) (by rw [HL5.out]; omega) ⟨⟨kq, tq, sq, iq, fq, oq, bq⟩, aq⟩).put (i := kk) (by rw [List.length_set, HL5.out]; omega) ⟨⟨kp, tp, sp, ip, fp, op, bp⟩, ap⟩).drew
            have es : (ys.set i ⟨⟨kq, tq, sq, iq, fq, oq, bq⟩, aq⟩).set kk ⟨⟨kp, tp, sp, ip, fp, op, bp⟩, ap⟩ = swp Nm.zero ys i kk := by rw [swp, ← HYP.out, ← HYQ.out]
            rw [es] at hp7
            have t67 := (Turn.wset (S := fun b => b = g) (a := w6d) (g := g) (.inl rfl) (Nm.cells ⟨⟨kp, tp, sp, ip, fp, op, bp⟩, ap⟩) (kk * 8) (Turn.wset (S := fun b => b = g) (a := w6d) (g := g) (.inl rfl) (Nm.cells ⟨⟨kq, tq, sq, iq, fq, oq, bq⟩, aq⟩) (i * 8) (Turn.refl _ _))).drew
            have hW7 : (((((((((((((((((w6d).setCell ⟨g, i * 8, none⟩ (.int .i64 kq)).setCell ⟨g, i * 8 + 1, none⟩ (.int .i64 tq)).setCell ⟨g, i * 8 + 2, none⟩ (.int .i64 sq)).setCell ⟨g, i * 8 + 3, none⟩ (.int .i64 iq)).setCell ⟨g, i * 8 + 4, none⟩ (.int .i64 fq)).setCell ⟨g, i * 8 + 5, none⟩ (.int .i64 oq)).setCell ⟨g, i * 8 + 6, none⟩ (.string bq)).setCell ⟨g, i * 8 + 7, none⟩ (.int .i64 aq)).setCell ⟨g, kk * 8, none⟩ (.int .i64 kp)).setCell ⟨g, kk * 8 + 1, none⟩ (.int .i64 tp)).setCell ⟨g, kk * 8 + 2, none⟩ (.int .i64 sp)).setCell ⟨g, kk * 8 + 3, none⟩ (.int .i64 ip)).setCell ⟨g, kk * 8 + 4, none⟩ (.int .i64 fp)).setCell ⟨g, kk * 8 + 5, none⟩ (.int .i64 op)).setCell ⟨g, kk * 8 + 6, none⟩ (.string bp)).setCell ⟨g, kk * 8 + 7, none⟩ (.int .i64 ap)).drew = (wset (wset w6d g (i * 8) (Nm.cells ⟨⟨kq, tq, sq, iq, fq, oq, bq⟩, aq⟩)) g (kk * 8) (Nm.cells ⟨⟨kp, tp, sp, ip, fp, op, bp⟩, ap⟩)).drew := rfl
            rw [hW7]
            clear hW7
            generalize (wset (wset w6d g (i * 8) (Nm.cells ⟨⟨kq, tq, sq, iq, fq, oq, bq⟩, aq⟩)) g (kk * 8) (Nm.cells ⟨⟨kp, tp, sp, ip, fp, op, bp⟩, ap⟩)).drew = W7 at hp7 t67 ⊢
            have t7 := T6d.out.trans (t67.mono (S' := fun b => b = h ∨ b = g) fun _ _ e => .inr e)
            have HP7 := Lib.hid hp7
            have T7 := Lib.hid t7
            have RA7 := Lib.hid (RA6d.out.turn t67 (fun e => by omega))
            have RB7 := Lib.hid (RB6d.out.turn t67 (fun e => by omega))
            clear hp7 t7 t67 es P0 P1 P2 P3 P4 P5 P6 P7 K0 K1 K2 K3 K4 K5 K6 K7 hfz z0
            clear HPc HD5 HE HYP HYQ Tc RAc RBc HP6d T6d RA6d RB6d
            refine hKK _ _ (Met.intro (hJJ _ _ ?_))
            exact ⟨_, _, _, _, _, _, _, _, _, _, _, _, _, _, _, _, _, _, _, _, _, _, _, _, _, _, ⟨HP7.out, T7.out, RA7.out, RB7.out⟩, rfl⟩
          case rest =>
            obtain ⟨HP7, T7, RA7, RB7⟩ := hcut
            have E7 := Lib.hid e
            have HL7 := Lib.hid (show (swp Nm.zero ys i kk).length = N by rw [swp_length]; exact HL5.out)
            clear e P0 P1 P2 P3 P4 P5 P6 P7 K0 K1 K2 K3 K4 K5 K6 K7 hfz z0
            go_wp2
            go_roundw
            case rel => first | exact ⟨kk, swp Nm.zero ys i kk, m, by go_num, HL7.out, by omega, by omega, HP7.out, E7.out, T7.out, RA7.out, RB7.out⟩ | ((repeat apply Exists.intro); exact ⟨⟨kk, swp Nm.zero ys i kk, m, by go_num, HL7.out, by omega, by omega, HP7.out, E7.out, T7.out, RA7.out, RB7.out⟩, rfl⟩)
            case measure => simp [intOf]; omega


end Go.Proofs.Ytmmfobbalhpomaa
