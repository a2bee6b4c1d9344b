/- push: the walk. -/
import Derived.Test.YtmmfobbalhpomaaHW
import Derived.Deep.DeepCutAuto
import Derived.Deep.CutRange
namespace Go.Proofs.Ytmmfobbalhpomaa
set_option linter.unusedVariables false
set_option linter.unusedSimpArgs false
open Go.RowKit

theorem up_zero {xs : List Nm} {lt : Nm → Nm → Bool} (m : Nat) : up Nm.zero lt m xs 0 = xs := by
  cases m with
  | zero => rfl
  | succ m => rw [up, if_pos rfl]
def PuPost (h ob base : Nat) (o : Int) (v : Value) (ys : List Nm) (w : World) (e : Ending) (w' : World) : Prop :=
  ∃ v', e = .returned (.tuple #[]) ∧ HP w' h ob base o v' ys ∧ Turn (fun b => b = h ∨ v.ownBlock = some b) w w' ∧ (∀ b, v'.ownBlock = some b → v.ownBlock = some b ∨ w.heap.size ≤ b)
set_option maxRecDepth 100000 in
set_option maxHeartbeats 6400000 in
theorem push_any (h ob base : Nat) (o : Int) (ho : o = 1 ∨ o = 2) (v : Value) (xs : List Nm) (x : Nm) (w : World) (H : HP w h ob base o v xs) (hn : xs.length < 16777216) (hb : base ≤ w.heap.size) :
    Calls Try.prog 36 #[.pointer (some ⟨h, 0, none⟩), .agg x.cells.toArray] w (PuPost h ob base o v (push Nm.zero (ltN o) xs x) w) := by
  obtain ⟨n, hnn⟩ : ∃ n, n = xs.length := ⟨_, rfl⟩
  rw [← hnn] at hn
  have HN := Lib.hid hnn
  have HH := Lib.hid H
  have hhl := H.head.lt
  have hhb := H.ord.lt
  obtain ⟨⟨k1, t1, s1, i1, f1, o1, b1⟩, a1⟩ := x
  have bx := RowAt.new w 74 (Nm.cells ⟨⟨k1, t1, s1, i1, f1, o1, b1⟩, a1⟩)
  have bw := (Below.refl w.heap.size w).alloc (Nat.le_refl _) (.cells (Nm.cells ⟨⟨k1, t1, s1, i1, f1, o1, b1⟩, a1⟩).toArray 74)
  have BX := Lib.hid bx
  have BW := Lib.hid bw
  have H0 := Lib.hid (H.below bw)
  obtain ⟨tg, htg⟩ : ∃ t, t = push Nm.zero (ltN o) xs ⟨⟨k1, t1, s1, i1, f1, o1, b1⟩, a1⟩ := ⟨_, rfl⟩
  rw [← htg]
  have HT := Lib.hid htg
  clear hnn H bx bw htg
  simp only [Nm.cells] at BX BW H0 ⊢
  go_enter Try.func36, Try.ntmps36
  go_wp2_with fail
  have hsz1 : w.heap.size + 1 = (w.alloc (.cells #[.int .i64 k1, .int .i64 t1, .int .i64 s1, .int .i64 i1, .int .i64 f1, .int .i64 o1, .string b1, .int .i64 a1] 74)).heap.size := by simp
  have BX' := Lib.hid (show RowAt (w.alloc (.cells #[.int .i64 k1, .int .i64 t1, .int .i64 s1, .int .i64 i1, .int .i64 f1, .int .i64 o1, .string b1, .int .i64 a1] 74)) w.heap.size 74 [.int .i64 k1, .int .i64 t1, .int .i64 s1, .int .i64 i1, .int .i64 f1, .int .i64 o1, .string b1, .int .i64 a1] from BX.out)
  have H0' := Lib.hid (show HP (w.alloc (.cells #[.int .i64 k1, .int .i64 t1, .int .i64 s1, .int .i64 i1, .int .i64 f1, .int .i64 o1, .string b1, .int .i64 a1] 74)) h ob base o v xs from H0.out)
  have BW' := Lib.hid (show Below w.heap.size w (w.alloc (.cells #[.int .i64 k1, .int .i64 t1, .int .i64 s1, .int .i64 i1, .int .i64 f1, .int .i64 o1, .string b1, .int .i64 a1] 74)) from BW.out)
  clear BX H0 BW
  generalize w.alloc (.cells #[.int .i64 k1, .int .i64 t1, .int .i64 s1, .int .i64 i1, .int .i64 f1, .int .i64 o1, .string b1, .int .i64 a1] 74) = W2 at BX' H0' BW' hsz1 ⊢
  have hs0 := H0'.out.head.cell 0
  have hf0 := H0'.out.head.frozen 0
  have hx := BX'.out.cell
  have hal : ∀ o, (W2.alloc o).cell? ⟨h, 0, none⟩ = some v := fun o => (H0'.out.head.alloc o).cell 0
  have hbs : base ≤ W2.heap.size := by omega
  have hvh : v.ownBlock ≠ some h := fun e => (H0'.out.far h e).1 rfl
  have hvo : v.ownBlock ≠ some ob := fun e => (H0'.out.far ob e).2 rfl
  simp only [List.getElem?_cons_zero] at hs0
  have hal' := hal
  go_cut [] (fun wc => ∃ g' cap' : Nat, Hid (HP wc h ob base o (.slice (some ⟨g', 0, none⟩) (n + 1) cap') (xs ++ [⟨⟨k1, t1, s1, i1, f1, o1, b1⟩, a1⟩])) ∧ Hid (Turn (fun b => b = h ∨ v.ownBlock = some b) w wc) ∧ Hid (v.ownBlock = some g' ∨ w.heap.size ≤ g'))
  case first =>
    go_region_law
      ((refine hgrow_step ⟨⟨k1, t1, s1, i1, f1, o1, b1⟩, a1⟩ (by rfl) (by rfl) H0'.out.own HN.out (by rfl) (by rfl) hn hbs ?_; intro g' cap' w5 hown' hgrow hat; have D5 := Lib.hid (grown_row hgrow hvh ((RowAt.drew H0'.out.head).alloc _)); have E5 := Lib.hid (grown_row hgrow hvo ((RowAt.drew H0'.out.ord).alloc _)); have hf5 := D5.out.frozen 0; have hc5 : w5.cell? ⟨h, 0, none⟩ = some v := D5.out.cell 0))
    all_goals
      have t5 : Turn (fun b => v.ownBlock = some b) w w5 := (Turn.of_below (BW'.out.drew.alloc BW'.out.size _) _).grown hgrow fun k hk => .inl hk
      have hs5 := t5.size
      have hp : HP (w5.setCell ⟨h, 0, none⟩ (.slice (some ⟨g', 0, none⟩) (n + 1) cap')) h ob base o (.slice (some ⟨g', 0, none⟩) (n + 1) cap') (xs ++ [⟨⟨k1, t1, s1, i1, f1, o1, b1⟩, a1⟩]) := by
        have o5 : Own w5 base 74 8 Nm.cells (.slice (some ⟨g', 0, none⟩) (n + 1) cap') (xs ++ [⟨⟨k1, t1, s1, i1, f1, o1, b1⟩, a1⟩]) := Own.snoc (by rw [← HN.out]; exact hown')
        refine ⟨D5.out.set 0 _, E5.out.far (H0'.out.ord.ne H0'.out.head (by decide)) _, o5.turn (S := fun b => b = h) (Turn.setCell (S := fun b => b = h) (p := ⟨h, 0, none⟩) (Turn.refl _ _) (.inl rfl) _) fun k hk e => ?_⟩
        subst e
        rcases o5.cases with ⟨e, -⟩ | ⟨g, cap, rest, e, -, -, -, hr⟩
        · simp at e
        · rw [e] at hk
          have := Option.some.inj hk
          subst this
          exact hr.ne D5.out (by decide) rfl
      have HP5 := Lib.hid hp
      have T5 := Lib.hid ((t5.mono (S' := fun b => b = h ∨ v.ownBlock = some b) fun i _ hi => .inr hi).setCell (p := ⟨h, 0, none⟩) (.inl (.inl rfl)) (.slice (some ⟨g', 0, none⟩) (n + 1) cap'))
      have HG := Lib.hid (show v.ownBlock = some g' ∨ w.heap.size ≤ g' from hat.imp id fun e => by omega)
      clear t5 hp hown' hgrow hat hf5 hc5 D5 E5 hs0 hf0 hx hal hvh hvo hs5
      go_wp2_with fail
      go_meet
      exact ⟨g', cap', HP5.out, T5.out, HG.out⟩
  case rest =>
    obtain ⟨g', cap', HP5, T5, HG⟩ := hcut
    have hc5 := HP5.out.head.cell 0
    have hlen : (xs ++ [(⟨⟨k1, t1, s1, i1, f1, o1, b1⟩, a1⟩ : Nm)]).length = n + 1 := by rw [List.length_append, ← HN.out]; rfl
    have HLen := Lib.hid hlen
    have HU := Lib.hid (show up Nm.zero (ltN o) n (xs ++ [⟨⟨k1, t1, s1, i1, f1, o1, b1⟩, a1⟩]) n = tg by rw [HT.out, push, HN.out])
    clear BX' H0' BW' hsz1 hs0 hf0 hx hal hal' hbs hvh hvo hlen hhl hhb HH
    generalize xs ++ [(⟨⟨k1, t1, s1, i1, f1, o1, b1⟩, a1⟩ : Nm)] = ys0 at HP5 HLen HU
    simp only [List.getElem?_cons_zero] at hc5
    go_wp2
    go_loopw [4] (fun i wr => ∃ (k : Nat) (ys : List Nm) (m : Nat), i = .int .i64 k ∧ k < n + 1 ∧ k ≤ m ∧ Hid (ys.length = n + 1) ∧ Hid (HP wr h ob base o (.slice (some ⟨g', 0, none⟩) (n + 1) cap') ys) ∧ Hid (up Nm.zero (ltN o) m ys k = tg) ∧ Hid (Turn (fun b => b = h ∨ v.ownBlock = some b) w wr)) (fun i _ => (intOf i).toNat)
    case atStart => exact ⟨n, ys0, n, by go_num, by omega, Nat.le_refl _, HLen.out, HP5.out, HU.out, T5.out⟩
    case round =>
      obtain ⟨k, ys, m, rfl, hk, hkm, HL, HP, HU2, HT2⟩ := hrel
      clear hc5 HP5 HU HLen T5
      by_cases hk0 : k = 0
      · subst hk0
        go_wp2
        go_end0
        refine ⟨.slice (some ⟨g', 0, none⟩) (n + 1) cap', rfl, ?_, HT2.out, fun b hb => ?_⟩
        · have := HU2.out
          rw [up_zero] at this
          rw [← this]
          exact HP.out
        · have e := Option.some.inj hb
          subst e
          exact HG.out
      · obtain ⟨m, rfl⟩ : ∃ q, m = q + 1 := ⟨m - 1, by omega⟩
        obtain ⟨q, hq⟩ : ∃ q, q = (k - 1) / 2 := ⟨_, rfl⟩
        have hqk : q < k := by omega
        have hk0' : (0 : Int) < k := by omega
        have hquo : ((k : Int) - 1).tdiv 2 = q := by rw [Int.tdiv_eq_ediv_of_nonneg (by omega)]; omega
        have hu := HU2.out
        rw [up, if_neg hk0, ← hq] at hu
        have hkl : k < ys.length := by rw [HL.out]; exact hk
        have hql : q < ys.length := by rw [HL.out]; omega
        obtain ⟨x0, x1, x2, x3, x4, x5, x6, x7⟩ := nm_at (HP.out.cells rfl hkl)
        obtain ⟨y0, y1, y2, y3, y4, y5, y6, y7⟩ := nm_at (HP.out.cells rfl hql)
        have hh0 := HP.out.head.cell 0
        have hh1 := HP.out.head.cell 1
        simp only [List.getElem?_cons_zero, List.getElem?_cons_succ] at hh0 hh1
        obtain ⟨yk, hyk⟩ : ∃ y, y = gt Nm.zero ys k := ⟨_, rfl⟩
        obtain ⟨yq, hyq⟩ : ∃ y, y = gt Nm.zero ys q := ⟨_, rfl⟩
        rw [← hyk] at x0 x1 x2 x3 x4 x5 x6 x7 hu
        rw [← hyq] at y0 y1 y2 y3 y4 y5 y6 y7 hu
        have HYK := Lib.hid hyk
        have HYQ := Lib.hid hyq
        have HQ := Lib.hid hq
        have HU3 := Lib.hid hu
        have HKL := Lib.hid hkl
        have HQL := Lib.hid hql
        obtain ⟨⟨kx, tx, sx, ix, fx, ox, bx⟩, ax⟩ := yk
        obtain ⟨⟨ky, ty, sy, iy, fy, oy, bsy⟩, ay⟩ := yq
        clear hyk hyq hq hu hkl hql HU2
        simp only at x0 x1 x2 x3 x4 x5 x6 x7 y0 y1 y2 y3 y4 y5 y6 y7
        go_wp2_with fail
        have hgl : g' < wr.heap.size := (HP.out.own.base g' rfl).2
        have hhl2 := HP.out.head.lt
        obtain ⟨lb, hlb⟩ : ∃ l, l = ltN o ⟨⟨kx, tx, sx, ix, fx, ox, bx⟩, ax⟩ ⟨⟨ky, ty, sy, iy, fy, oy, bsy⟩, ay⟩ := ⟨_, rfl⟩
        have HLB := Lib.hid hlb
        clear hlb
        have i1a : (0 : Int) ≤ (k : Int) := by omega
        have i1b : (k : Int) < (n : Int) + 1 := by omega
        have i2a : (0 : Int) ≤ (q : Int) := by omega
        have i2b : (q : Int) < (n : Int) + 1 := by omega
        go_region_held3 (fun w' => w'.cell? ⟨h, 0, none⟩ = some (.slice (some ⟨g', 0, none⟩) (n + 1) cap') ∧ w'.cell? ⟨h, 1, none⟩ = some (lessV ob) ∧ w'.cell? ⟨g', k * 8, none⟩ = some (.int .i64 kx) ∧ w'.cell? ⟨g', k * 8 + 1, none⟩ = some (.int .i64 tx) ∧ w'.cell? ⟨g', k * 8 + 2, none⟩ = some (.int .i64 sx) ∧ w'.cell? ⟨g', k * 8 + 3, none⟩ = some (.int .i64 ix) ∧ w'.cell? ⟨g', k * 8 + 4, none⟩ = some (.int .i64 fx) ∧ w'.cell? ⟨g', k * 8 + 5, none⟩ = some (.int .i64 ox) ∧ w'.cell? ⟨g', k * 8 + 6, none⟩ = some (.string bx) ∧ w'.cell? ⟨g', k * 8 + 7, none⟩ = some (.int .i64 ax) ∧ w'.cell? ⟨g', q * 8, none⟩ = some (.int .i64 ky) ∧ w'.cell? ⟨g', q * 8 + 1, none⟩ = some (.int .i64 ty) ∧ w'.cell? ⟨g', q * 8 + 2, none⟩ = some (.int .i64 sy) ∧ w'.cell? ⟨g', q * 8 + 3, none⟩ = some (.int .i64 iy) ∧ w'.cell? ⟨g', q * 8 + 4, none⟩ = some (.int .i64 fy) ∧ w'.cell? ⟨g', q * 8 + 5, none⟩ = some (.int .i64 oy) ∧ w'.cell? ⟨g', q * 8 + 6, none⟩ = some (.string bsy) ∧ w'.cell? ⟨g', q * 8 + 7, none⟩ = some (.int .i64 ay))
          (first | exact ⟨hh0, hh1, x0, x1, x2, x3, x4, x5, x6, x7, y0, y1, y2, y3, y4, y5, y6, y7⟩ | exact ⟨(cp _ _ hhl2).trans hh0, (cp _ _ hhl2).trans hh1, (cp _ _ hgl).trans x0, (cp _ _ hgl).trans x1, (cp _ _ hgl).trans x2, (cp _ _ hgl).trans x3, (cp _ _ hgl).trans x4, (cp _ _ hgl).trans x5, (cp _ _ hgl).trans x6, (cp _ _ hgl).trans x7, (cp _ _ hgl).trans y0, (cp _ _ hgl).trans y1, (cp _ _ hgl).trans y2, (cp _ _ hgl).trans y3, (cp _ _ hgl).trans y4, (cp _ _ hgl).trans y5, (cp _ _ hgl).trans y6, (cp _ _ hgl).trans y7⟩)
          (first
            | (go_at_call 35; refine (less_any o ho ⟨⟨kx, tx, sx, ix, fx, ox, bx⟩, ax⟩ ⟨⟨ky, ty, sy, iy, fy, oy, bsy⟩, ay⟩ ob _ (RowAt.drew HP.out.ord)).mono ?_; rintro e6 w6 ⟨rfl, hb6⟩; rw [← HLB.out]; have cp : ∀ b j, b < wr.heap.size → w6.cell? ⟨b, j, none⟩ = wr.cell? ⟨b, j, none⟩ := fun b j hlt => World.cell?_of_block (w := wr) (hb6.block b hlt); have HP6 := Lib.hid (HP.out.drew.below hb6); have T6 := Lib.hid (HT2.out.drew.trans (Turn.of_below hb6 _)); clear hb6))
        cases lb with
        | false =>
          go_wp2
          go_end0
          refine ⟨.slice (some ⟨g', 0, none⟩) (n + 1) cap', rfl, ?_, T6.out, fun b hb => ?_⟩
          · have e := HU3.out
            rw [if_neg (by rw [← HLB.out]; decide)] at e
            rw [← e]
            exact HP6.out
          · have e := Option.some.inj hb
            subst e
            exact HG.out
        | true =>
          have z0 := (cp _ 0 hhl2).trans hh0
          obtain ⟨X0, X1, X2, X3, X4, X5, X6, X7⟩ := nm_at (HP6.out.cells rfl HKL.out)
          obtain ⟨Y0, Y1, Y2, Y3, Y4, Y5, Y6, Y7⟩ := nm_at (HP6.out.cells rfl HQL.out)
          rw [← HYK.out] at X0 X1 X2 X3 X4 X5 X6 X7
          rw [← HYQ.out] at Y0 Y1 Y2 Y3 Y4 Y5 Y6 Y7
          have hfz : ∀ j, w6.frozen? ⟨g', j, none⟩ = false := by
            obtain ⟨g9, c9, r9, e9, -, -, -, hrow9⟩ := HP6.out.view (by rw [HL.out]; omega)
            injection e9 with e9
            injection e9 with e9
            injection e9 with e9
            subst e9
            exact hrow9.frozen
          simp only at X0 X1 X2 X3 X4 X5 X6 X7 Y0 Y1 Y2 Y3 Y4 Y5 Y6 Y7
          clear hh0 hh1 x0 x1 x2 x3 x4 x5 x6 x7 y0 y1 y2 y3 y4 y5 y6 y7 cp
          go_wp2_with fail
          go_region
          have e := HU3.out
          rw [if_pos HLB.out.symm] at e
          have hp7 := ((HP6.out.put HKL.out ⟨⟨ky, ty, sy, iy, fy, oy, bsy⟩, ay⟩).put (i := q) (by rw [List.length_set]; exact HQL.out) ⟨⟨kx, tx, sx, ix, fx, ox, bx⟩, ax⟩).drew
          have es : (ys.set k ⟨⟨ky, ty, sy, iy, fy, oy, bsy⟩, ay⟩).set q ⟨⟨kx, tx, sx, ix, fx, ox, bx⟩, ax⟩ = swp Nm.zero ys k q := by rw [swp, ← HYK.out, ← HYQ.out]
          rw [es] at hp7
          have hS : (b' : Nat) → b' = g' → ((b' = h ∨ v.ownBlock = some b') ∨ w.heap.size ≤ b') := fun b' e => by subst e; exact HG.out.imp .inr id
          have t7 := (Turn.wset (S := fun b => b = h ∨ v.ownBlock = some b) (a := w) (g := g') (hS g' rfl) (Nm.cells ⟨⟨kx, tx, sx, ix, fx, ox, bx⟩, ax⟩) (q * 8) (Turn.wset (S := fun b => b = h ∨ v.ownBlock = some b) (a := w) (g := g') (hS g' rfl) (Nm.cells ⟨⟨ky, ty, sy, iy, fy, oy, bsy⟩, ay⟩) (k * 8) T6.out)).drew
          have HP7 := Lib.hid hp7
          have T7 := Lib.hid t7
          have E7 := Lib.hid e
          have HL7 := Lib.hid (show (swp Nm.zero ys k q).length = n + 1 by rw [swp_length]; exact HL.out)
          clear hp7 t7 e es hS X0 X1 X2 X3 X4 X5 X6 X7 Y0 Y1 Y2 Y3 Y4 Y5 Y6 Y7 hfz z0
          go_wp2
          go_roundw
          case rel => exact ⟨q, swp Nm.zero ys k q, m, rfl, by omega, by omega, HL7.out, HP7.out, E7.out, T7.out⟩
          case measure => simp [intOf]; omega
end Go.Proofs.Ytmmfobbalhpomaa
