/- The law of plays: every tree, every script. -/
import Derived.Test.YtgcfpepaapdjoaaStep
import Derived.Test.YtgcfpepaapdjoaaY
namespace Go.Proofs.Ytgcfpepaapdjoaa
set_option linter.unusedVariables false
set_option linter.unusedSimpArgs false
open Go.RowKit

theorem step_any (z : Six) (o : Int) (xs : List Src) (t : RT) (k : Int) (a : Int) (x : Row) (w : World) (h : Pair z o w xs t) :
    Calls Try.prog 15 #[.pointer (some ⟨z.g, 0, none⟩), .pointer (some ⟨z.r, 0, none⟩), .agg #[.int .i64 k, .int .i64 a, .int .i64 x.kind, .int .i64 x.time, .int .i64 x.seq, .int .i64 x.index, .int .i64 x.frm, .int .i64 x.to, .string x.body]] w (StepPost z o w) := by
  by_cases h1 : k = 1
  · subst h1; exact step_feed z o xs t a x w h
  by_cases h2 : k = 2
  · subst h2; exact step_fin z o xs t a x w h
  by_cases h3 : k = 3
  · subst h3; exact step_win z o xs t a x w h
  by_cases h4 : k = 4
  · subst h4; exact step_waits z o xs t a x w h
  by_cases h5 : k = 5
  · subst h5; exact step_top z o xs t a x w h
  exact step_else z o xs t k (by simpa using h1) (by simpa using h2) (by simpa using h3) (by simpa using h4) (by simpa using h5) a x w h
def Six.over (z : Six) (n : Nat) : Prop := ∀ b, z.own b → n ≤ b
theorem Turn.overB {z : Six} {w0 w w' : World} (ht : Turn z.own w w') (hb : Below w0.heap.size w0 w) (h : z.over w0.heap.size) : Below w0.heap.size w0 w' :=
  hb.trans (ht.below hb.size fun i hi ho => absurd (h i ho) (by omega))
set_option maxRecDepth 100000 in
set_option maxHeartbeats 3200000 in
theorem plays_walk (o k : Int) (A : Option Addr) (n cap : Nat) (xs : List Op) (hn : xs.length = n) (hm : n ≤ maxLen) (w : World) (hR : SliceRd w A 9 Op.cells xs) :
    Calls Try.prog 4 #[.int .i64 o, .int .i64 k, .slice A n cap] w fun e w' => e = .returned (.bool true) ∧ Below w.heap.size w w' := by
  have HR := Lib.hid hR
  have hm' : n ≤ 9223372036854775807 := by unfold maxLen at hm; omega
  have HM := Lib.hid hm
  clear hR hm
  by_cases hg : newErr o k = 0
  · have hgg : (o = 1 ∨ o = 2) ∧ 1 ≤ k ∧ k ≤ 64 := by
      unfold newErr at hg
      split at hg
      · split at hg
        · constructor <;> assumption
        · omega
      · omega
    obtain ⟨ho, hk1, hk2⟩ := hgg
    obtain ⟨k, rfl⟩ : ∃ m : Nat, k = m := ⟨k.toNat, by omega⟩
    have k1 : 1 ≤ k := by omega
    have k2 : k ≤ 64 := by omega
    have HO := Lib.hid ho
    clear hg ho hk1 hk2
    go_enter Try.func4, Try.ntmps4
    go_wp2_with fail
    refine (anchor_any _).mono ?_
    rintro e w1 ⟨rfl, b1⟩
    have B1 := Lib.hid b1
    clear b1
    go_wp2_with fail
    refine (tr_new o k _ HO.out k1 k2).mono ?_
    rintro e w2 ⟨g, bs, bl, rfl, h2, b2, s1, s2, s3⟩
    have l2 := h2.lt
    have H2 := Lib.hid h2
    have B2 := Lib.hid (B1.out.trans (b2.mono B1.out.size))
    clear h2 b2
    go_wp2_with fail
    refine (rnew_yes o k _ HO.out k1 k2).mono ?_
    rintro e w3 ⟨r, rs, rr, rfl, h3, b3, s4, s5, s6⟩
    have B3 := Lib.hid (B2.out.trans (b3.mono B2.out.size))
    have hP : Pair ⟨g, bs, bl, r, rs, rr⟩ o w3 (List.replicate k Src.zero) (RT.new o k) := ⟨H2.out.below b3, h3, sim_new o k, w2.heap.size, l2.1, l2.2.1, l2.2.2, s4, s5, s6⟩
    have hZ : Six.over ⟨g, bs, bl, r, rs, rr⟩ w.heap.size := by
      have := B1.out.size
      have := B2.out.size
      intro b hb
      unfold Six.own at hb
      simp only at hb
      omega
    have P3 := Lib.hid hP
    have HZ := Lib.hid hZ
    clear h3 b3 hP hZ s1 s2 s3 s4 s5 s6 l2
    go_wp2
    go_loopw [41] (fun i wr => ∃ j : Nat, i = .int .i64 j ∧ j ≤ n ∧ Hid (∃ ys t, Pair ⟨g, bs, bl, r, rs, rr⟩ o wr ys t) ∧ Hid (Below w.heap.size w wr)) (fun i _ => n - (intOf i).toNat)
    case atStart => exact ⟨0, rfl, by omega, ⟨_, _, P3.out⟩, B3.out⟩
    case round =>
      obtain ⟨j, rfl, hj, HP, HB⟩ := hrel
      by_cases hlt : j < n
      · obtain ⟨op, hx⟩ : ∃ op, xs[j]? = some op := ⟨_, List.getElem?_eq_getElem (by omega)⟩
        obtain ⟨b, off, rfl, hb, hc⟩ := (HR.out.below HB.out).at hx
        obtain ⟨ok, oa, ox⟩ := op
        have c0 := hc 0 (by omega)
        have c1 := hc 1 (by omega)
        have c2 := hc 2 (by omega)
        have c3 := hc 3 (by omega)
        have c4 := hc 4 (by omega)
        have c5 := hc 5 (by omega)
        have c6 := hc 6 (by omega)
        have c7 := hc 7 (by omega)
        have c8 := hc 8 (by omega)
        simp only [Op.cells, Row.cells, List.getElem?_cons_zero, List.getElem?_cons_succ, Nat.add_zero] at c0 c1 c2 c3 c4 c5 c6 c7 c8
        clear hc
        obtain ⟨ys, t, hP⟩ := HP.out
        have HPP := Lib.hid hP
        clear hP HP
        go_wp2_with fail
        have hB1 := HB.out.alloc HB.out.size (.cells #[.int .i64 ok, .int .i64 oa, .int .i64 ox.kind, .int .i64 ox.time, .int .i64 ox.seq, .int .i64 ox.index, .int .i64 ox.frm, .int .i64 ox.to, .string ox.body] 40)
        refine (step_any ⟨g, bs, bl, r, rs, rr⟩ o ys t ok oa ox _ (HPP.out.below ((Below.refl _ _).alloc (Nat.le_refl _) _))).mono ?_
        rintro e w4 ⟨rfl, ys', t', hp4, t4⟩
        have HP4 := Lib.hid hp4
        have HB4 := Lib.hid (Turn.overB t4 hB1 HZ.out)
        clear hp4 t4 hB1 HB HPP
        go_wp2
        go_roundw
        case rel =>
          exact ⟨j + 1, by go_num, by omega, ⟨ys', t', HP4.out⟩, HB4.out⟩
        case measure => simp [intOf]; omega
      · obtain ⟨ys, t, hP⟩ := HP.out
        have HPP := Lib.hid hP
        clear hP HP
        go_wp2_with fail
        refine (step_any ⟨g, bs, bl, r, rs, rr⟩ o ys t 4 0 Row.zero _ HPP.out).mono ?_
        rintro e w4 ⟨rfl, ys', t', hp4, t4⟩
        have HP4 := Lib.hid hp4
        have HB4 := Lib.hid (Turn.overB t4 HB.out HZ.out)
        clear hp4 t4 HB HPP
        go_wp2_with fail
        refine (step_any ⟨g, bs, bl, r, rs, rr⟩ o ys' t' 3 0 Row.zero _ HP4.out).mono ?_
        rintro e w5 ⟨rfl, ys5, t5, hp5, t5'⟩
        have HB5 := Lib.hid (Turn.overB t5' HB4.out HZ.out)
        clear hp5 t5' HB4 HP4
        go_wp2
        go_ret
        exact ⟨rfl, HB5.out⟩
  · have h1 := new_no o k
    have h2 := rnew_no o k
    obtain ⟨q, hq⟩ : ∃ q, q = newErr o k := ⟨_, rfl⟩
    rw [← hq] at h1 h2 hg
    have hg0 : (q != 0) = true := by simpa using hg
    have H1 := Lib.hid h1
    have H2 := Lib.hid h2
    have HG := Lib.hid hg
    clear h1 h2 hq hg
    go_enter Try.func4, Try.ntmps4
    go_wp2_with fail
    refine (anchor_any _).mono ?_
    rintro e w1 ⟨rfl, b1⟩
    have B1 := Lib.hid b1
    clear b1
    go_wp2_with fail
    refine (H1.out _ HG.out).mono ?_
    rintro e w2 ⟨rfl, rfl⟩
    go_wp2_with fail
    refine (H2.out _ HG.out).mono ?_
    rintro e w2 ⟨rfl, rfl⟩
    go_wp2
    go_ret
    exact ⟨rfl, B1.out⟩
end Go.Proofs.Ytgcfpepaapdjoaa
