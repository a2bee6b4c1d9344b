/- The walk of the law of dry sources: finished sources never win, with all finished nothing does, Feed and Finish of them are refused. -/
import Derived.Test.YtgcfpepaapdjoaaQ
namespace Go.Proofs.Ytgcfpepaapdjoaa
set_option linter.unusedVariables false
set_option linter.unusedSimpArgs false
open Go.RowKit

def dry0 (i a j : Nat) : Src := if j < i ∧ j ≠ a then Src.fin else Src.zero
def dry1 (a : Nat) (s : Src) (j : Nat) : Src := if j = a then s else Src.fin
theorem dry0_none (k a : Nat) : List.replicate k Src.zero = Gs (dry0 0 a) k := by
  apply Gs_ext (by simp)
  intro j hj
  rw [at'_replicate]
  unfold dry0
  rw [if_neg (by omega)]
theorem dry0_skip (k i : Nat) : Gs (dry0 (i + 1) i) k = Gs (dry0 i i) k := by
  apply Gs_congr
  intro j hj
  unfold dry0
  by_cases c : j < i ∧ j ≠ i
  · rw [if_pos c, if_pos (by omega)]
  · rw [if_neg c, if_neg (by omega)]
theorem dry0_step (k i a : Nat) (hi : i < k) (hne : i ≠ a) : waitA (Gs (dry0 i a) k) i = 0 ∧ finS (Gs (dry0 i a) k) i = Gs (dry0 (i + 1) a) k := by
  have h1 : waitA (Gs (dry0 i a) k) i = 0 := by
    unfold waitA
    have e : dry0 i a i = Src.zero := by unfold dry0; rw [if_neg (by omega)]
    rw [Gs_length, if_neg (by omega), show ((i : Int).toNat) = i from by omega, Gs_at _ _ _ hi, e]
    rfl
  refine ⟨h1, ?_⟩
  unfold finS
  rw [if_pos h1, show ((i : Int).toNat) = i from by omega, Gs_set _ _ _ _ hi]
  apply Gs_congr
  intro j hj
  unfold dry0
  by_cases e : j = i
  · subst e; rw [if_pos rfl, if_pos (by omega)]
  · rw [if_neg e]
    by_cases c : j < i ∧ j ≠ a
    · rw [if_pos c, if_pos (by omega)]
    · rw [if_neg c, if_neg (by omega)]
theorem dry0_done (k a : Nat) : Gs (dry0 k a) k = Gs (dry1 a Src.zero) k := by
  apply Gs_congr
  intro j hj
  unfold dry0 dry1
  by_cases e : j = a
  · rw [if_neg (by omega), if_pos e]
  · rw [if_pos (by omega), if_neg e]
theorem dry1_set (k a : Nat) (s s' : Src) (ha : a < k) : (Gs (dry1 a s) k).set a s' = Gs (dry1 a s') k := by
  rw [Gs_set _ _ _ _ ha]
  apply Gs_congr
  intro j hj
  unfold dry1
  by_cases e : j = a
  · rw [if_pos e, if_pos e]
  · rw [if_neg e, if_neg e, if_neg e]
theorem dry1_at (k a : Nat) (s : Src) (ha : a < k) : at' (Gs (dry1 a s) k) a = s := by
  rw [Gs_at _ _ _ ha]
  unfold dry1
  rw [if_pos rfl]
theorem dry1_wait (k a : Nat) (s : Src) (ha : a < k) : waitA (Gs (dry1 a s) k) a = if s.st = 0 then 0 else 112 := by
  unfold waitA
  rw [Gs_length, if_neg (by omega), show ((a : Int).toNat) = a from by omega, dry1_at k a s ha]
theorem dry1_any (o : Int) (k a : Nat) (ha : a < k) : winA o (Gs (dry1 a Src.zero) k) = ((0, Row.zero, 113), Gs (dry1 a Src.zero) k) := by
  unfold winA
  rw [if_pos]
  unfold anyWait
  rw [List.any_eq_true]
  refine ⟨Src.zero, ?_, by rfl⟩
  rw [List.mem_iff_getElem?]
  exact ⟨a, by rw [at'_some (by rw [Gs_length]; exact ha), dry1_at k a _ ha]⟩
theorem dry1_full (k a : Nat) (s : Src) (hs : Full s) : AllFull (Gs (dry1 a s) k) := Gs_full fun j _ => by
  unfold dry1
  split
  · exact hs
  · exact .inr rfl
theorem dry1_win (k a : Nat) (r : Row) (ha : a < k) : winA 1 (Gs (dry1 a ⟨1, r⟩) k) = ((((a : Nat) : Int), r, (0 : Int)), Gs (dry1 a Src.zero) k) := by
  have ea := dry1_at k a ⟨1, r⟩ ha
  rw [winA_of 1 (.inl rfl) _ (dry1_full k a _ (.inl rfl)) a (by rw [Gs_length]; exact ha) (by rw [ea]) ?_, ea, dry1_set k a _ _ ha]
  intro j hj hne
  rw [Gs_length] at hj
  unfold bt
  rw [ea, Gs_at _ _ _ hj]
  unfold dry1
  rw [if_neg hne]
  rfl
theorem dry1_dry (k a : Nat) (ha : a < k) : winA 1 (Gs (dry1 a Src.fin) k) = ((0, Row.zero, 114), Gs (dry1 a Src.fin) k) := by
  have hst : ∀ j, j < k → (at' (Gs (dry1 a Src.fin) k) j).st = 2 := by
    intro j hj
    rw [Gs_at _ _ _ hj]
    unfold dry1
    split <;> rfl
  have hw : ¬ anyWait (Gs (dry1 a Src.fin) k) = true := by
    intro h
    obtain ⟨i, hi, h0⟩ := anyWait_true h
    rw [Gs_length] at hi
    rw [hst i hi] at h0
    omega
  unfold winA
  rw [if_neg hw, if_pos]
  apply hst
  have := W_lt (o := 1) (xs := Gs (dry1 a Src.fin) k) (n := 1) (by omega) (by rw [Gs_length]; omega)
  rwa [Gs_length] at this
theorem filter_one (k a : Nat) (p : Nat → Bool) (h : ∀ j, j < k → p j = decide (j = a)) : (List.range k).filter p = if a < k then [a] else [] := by
  induction k with
  | zero => rfl
  | succ k ih =>
    rw [List.range_succ, List.filter_append, ih (fun j hj => h j (by omega))]
    have hk := h k (by omega)
    by_cases e : k = a
    · subst e
      rw [if_neg (by omega), if_pos (by omega)]
      simp [hk]
    · have : p k = false := by rw [hk]; simp [e]
      by_cases c : a < k
      · rw [if_pos c, if_pos (by omega)]; simp [this]
      · rw [if_neg c, if_neg (by omega)]; simp [this]
theorem dry1_waits (k a : Nat) (ha : a < k) : waitsTo (Gs (dry1 a Src.zero) k) (Gs (dry1 a Src.zero) k).length = [a] := by
  unfold waitsTo
  rw [Gs_length, filter_one k a _ (fun j hj => ?_), if_pos ha]
  rw [Gs_at _ _ _ hj]
  unfold dry1
  by_cases e : j = a
  · rw [if_pos e]; simp [e, Src.zero]
  · rw [if_neg e]; simp [e, Src.fin]
theorem own_one_len {α : Type} {f : α → List Value} {w : World} {base : Nat} {e size : Nat} {v : Value} {x : α} (h : Own w base e size f v [x]) : ∃ a cap, v = .slice a 1 cap := by
  rcases h.cases with ⟨_, h⟩ | ⟨g, cap, rest, rfl, _⟩
  · simp at h
  · exact ⟨_, cap, rfl⟩
theorem feed_no_row {xs : List Src} {i : Int} {r : Row} (h : waitA xs i = 0) (hr : r.ok = false) : feedA xs i r = 90 ∧ feedS xs i r = xs := by
  have e : feedA xs i r = 90 := by unfold feedA; rw [if_neg (by simpa using h), hr]; rfl
  exact ⟨e, by unfold feedS; rw [e, if_neg (by omega)]⟩
theorem feed_no_wait {xs : List Src} {i : Int} {r : Row} (h : waitA xs i ≠ 0) : feedA xs i r = waitA xs i ∧ feedS xs i r = xs := by
  have e : feedA xs i r = waitA xs i := by unfold feedA; rw [if_pos h]
  exact ⟨e, by unfold feedS; rw [e, if_neg h]⟩
theorem fin_no_wait {xs : List Src} {i : Int} (h : waitA xs i ≠ 0) : finS xs i = xs := by unfold finS; rw [if_neg h]
theorem waitA_out {xs : List Src} {i : Int} (h : i < 0 ∨ (xs.length : Int) ≤ i) : waitA xs i = 111 := by unfold waitA; rw [if_pos h]

attribute [local go_sem high] eqA29
set_option maxRecDepth 100000 in
set_option maxHeartbeats 3200000 in
theorem dry_walk (k a : Int) (r : Row) (w : World) : Calls Try.prog 5 #[.int .i64 k, .int .i64 a, .agg #[.int .i64 r.kind, .int .i64 r.time, .int .i64 r.seq, .int .i64 r.index, .int .i64 r.frm, .int .i64 r.to, .string r.body]] w fun e w' => e = .returned (.bool true) ∧ Below w.heap.size w w' := by
  have hu29 := Try.underlying29
  by_cases hin : 1 ≤ k ∧ k ≤ 64 ∧ 0 ≤ a ∧ a < k
  · obtain ⟨k, rfl⟩ : ∃ m : Nat, k = m := ⟨k.toNat, by omega⟩
    obtain ⟨a, rfl⟩ : ∃ m : Nat, a = m := ⟨a.toNat, by omega⟩
    obtain ⟨h1, h2, -, h4⟩ := hin
    have k1 : 1 ≤ k := by omega
    have k2 : k ≤ 64 := by omega
    have ak : a < k := by omega
    clear h1 h2 h4
    go_enter Try.func5, Try.ntmps5
    go_wp2_with fail
    generalize hW0 : World.alloc w _ = W0
    have wb : Below w.heap.size w W0 := by rw [← hW0]; exact (Below.refl _ _).alloc (Nat.le_refl _) _
    have rb : RowAt W0 w.heap.size 29 [.int .i64 r.kind, .int .i64 r.time, .int .i64 r.seq, .int .i64 r.index, .int .i64 r.frm, .int .i64 r.to, .string r.body] := by rw [← hW0]; exact RowAt.new' w w.heap.size 29 _ rfl
    have WB := Lib.hid wb
    have RB := Lib.hid rb
    clear hW0 wb rb
    refine (anchor_any _).mono ?_
    rintro e w1 ⟨rfl, b1⟩
    go_wp2_with fail
    refine (tr_new 1 k _ (.inl rfl) k1 k2).mono ?_
    rintro e w2 ⟨g, bs, bl, rfl, t2, b2, n1, n2, n3⟩
    have s1 := b1.size
    rw [dry0_none k a] at t2
    have T2 := Lib.hid t2
    have B2 := Lib.hid (b1.trans (b2.mono b1.size))
    have m1 : W0.heap.size ≤ g := by omega
    have m2 : W0.heap.size ≤ bs := by omega
    have m3 : W0.heap.size ≤ bl := by omega
    clear t2 b1 b2 n1 n2 n3 s1
    go_wp2_with fail
    go_loopw [9] (fun v wr => ∃ i : Nat, v = .int .i64 i ∧ i ≤ k ∧ Hid (Tr wr g bs bl 1 (Gs (dry0 i a) k)) ∧ Hid (Below W0.heap.size W0 wr)) (fun v _ => k - (intOf v).toNat)
    case atStart => exact ⟨0, rfl, by omega, T2.out, B2.out⟩
    case round =>
      obtain ⟨i, rfl, hi, TR, BR⟩ := hrel
      clear T2 B2
      by_cases hlt : i < k
      · by_cases e : i = a
        · subst e
          go_wp2_with fail
          go_roundw
          case rel => exact ⟨i + 1, by go_num, by omega, by rw [dry0_skip]; exact TR.out, BR.out⟩
          case measure => simp [intOf]; omega
        · have F := Lib.hid (dry0_step k i a hlt e)
          go_wp2_with fail
          refine (tr_finish g bs bl 1 _ i _ TR.out).mono ?_
          rw [F.out.1, F.out.2]
          rintro e w3 ⟨rfl, t3, u3⟩
          have T3 := Lib.hid t3
          have B3 := Lib.hid (u3.belowT BR.out m1 m2 m3)
          clear t3 u3 TR BR F
          go_wp2_with fail
          go_roundw
          case rel => exact ⟨i + 1, by go_num, by omega, T3.out, B3.out⟩
          case measure => simp [intOf]; omega
      · obtain rfl : i = k := by omega
        have TF := Lib.hid (show Tr wr g bs bl 1 (Gs (dry1 a Src.zero) i) by rw [← dry0_done]; exact TR.out)
        have F1 := Lib.hid (dry1_any 1 i a ak)
        have FW := Lib.hid (dry1_wait i a Src.zero ak)
        have FWs := Lib.hid (dry1_waits i a ak)
        clear TR
        go_wp2_with fail
        refine (tr_win g bs bl 1 _ _ TF.out).mono ?_
        rw [F1.out]
        simp only [Row.zero]
        rintro e w3 ⟨rfl, t3, u3⟩
        have T3 := Lib.hid t3
        have B3 := Lib.hid (u3.belowT BR.out m1 m2 m3)
        have hbx := ((RB.out).below B3.out).cell
        have sb3 : w.heap.size < w3.heap.size := ((RB.out).below B3.out).lt
        clear t3 u3 TF BR F1
        go_wp2_with fail
        cases hok : r.ok
        · obtain ⟨f1, f2⟩ := feed_no_row (xs := Gs (dry1 a Src.zero) i) (i := a) (r := r) FW.out hok
          have G1 := Lib.hid f1
          have G2 := Lib.hid f2
          clear f1 f2
          refine (tr_feed g bs bl 1 _ a r _ (T3.out.below ((Below.refl _ _).alloc (Nat.le_refl _) _))).mono ?_
          rw [G1.out, G2.out]
          rintro e w4 ⟨rfl, t4, u4⟩
          have T4 := Lib.hid t4
          have B4 := Lib.hid (u4.belowT (B3.out.alloc B3.out.size _) m1 m2 m3)
          have hbx4 := ((RB.out).below B4.out).cell
          clear t4 u4 T3 B3 hbx
          go_wp2_with fail
          refine (plain_any r _).mono ?_
          rintro e w5 ⟨rfl, b5⟩
          have T5 := Lib.hid (T4.out.below b5)
          have B5 := Lib.hid (B4.out.trans (b5.mono B4.out.size))
          clear b5 T4 B4 hbx4
          go_wp2_with fail
          refine (refvalid_any r _).mono ?_
          rw [hok]
          rintro e w6 ⟨rfl, b6⟩
          have T6 := Lib.hid (T5.out.below b6)
          have B6 := Lib.hid (B5.out.trans (b6.mono B5.out.size))
          clear b6 T5 B5
          go_wp2_with fail
          refine (tr_waiting g bs bl 1 _ _ T6.out).mono ?_
          rw [FWs.out]
          rintro e w7 ⟨v, rfl, o7, b7⟩
          obtain ⟨A, cap, rfl⟩ := own_one_len o7
          have B7 := Lib.hid (B6.out.trans (b7.mono B6.out.size))
          clear o7 b7 T6 B6
          go_wp2
          go_ret
          exact ⟨rfl, WB.out.trans (B7.out.mono WB.out.size)⟩
        · obtain ⟨f1, f2⟩ := feed_at (xs := Gs (dry1 a Src.zero) i) (i := a) (r := r) (by rw [Gs_length]; exact ak) (by rw [dry1_at i a _ ak]; rfl) hok
          rw [dry1_set i a _ _ ak] at f2
          have f3 : waitA (Gs (dry1 a ⟨1, r⟩) i) a = 112 := by rw [dry1_wait i a _ ak]; rfl
          obtain ⟨f4, f5⟩ := feed_no_wait (xs := Gs (dry1 a ⟨1, r⟩) i) (i := a) (r := r) (by rw [f3]; omega)
          rw [f3] at f4
          have f6 := dry1_win i a r ak
          have f7 : waitA (Gs (dry1 a Src.zero) i) a = 0 := FW.out
          have f8 : finS (Gs (dry1 a Src.zero) i) a = Gs (dry1 a Src.fin) i := by unfold finS; rw [if_pos f7]; exact dry1_set i a _ _ ak
          have f9 := dry1_dry i a ak
          have f10 : waitA (Gs (dry1 a Src.fin) i) a = 112 := by rw [dry1_wait i a _ ak]; rfl
          obtain ⟨f11, f12⟩ := feed_no_wait (xs := Gs (dry1 a Src.fin) i) (i := a) (r := r) (by rw [f10]; omega)
          rw [f10] at f11
          have f13 := fin_no_wait (xs := Gs (dry1 a Src.fin) i) (i := a) (by rw [f10]; omega)
          have f14 : waitA (Gs (dry1 a Src.fin) i) i = 111 := waitA_out (by rw [Gs_length]; omega)
          have f15 := fin_no_wait (xs := Gs (dry1 a Src.fin) i) (i := i) (by rw [f14]; omega)
          have f16 : waitA (Gs (dry1 a Src.fin) i) (-1) = 111 := waitA_out (by omega)
          obtain ⟨f17, f18⟩ := feed_no_wait (xs := Gs (dry1 a Src.fin) i) (i := -1) (r := r) (by rw [f16]; omega)
          rw [f16] at f17
          have F := Lib.hid (And.intro f1 (And.intro f2 (And.intro f4 (And.intro f5 (And.intro f6 (And.intro f7 (And.intro f8 (And.intro f9 (And.intro f11 (And.intro f12 (And.intro f10 (And.intro f13 (And.intro f14 (And.intro f15 (And.intro f17 f18)))))))))))))))
          clear f1 f2 f3 f4 f5 f6 f7 f8 f9 f10 f11 f12 f13 f14 f15 f16 f17 f18
          refine (tr_feed g bs bl 1 _ a r _ (T3.out.below ((Below.refl _ _).alloc (Nat.le_refl _) _))).mono ?_
          rw [F.out.1, F.out.2.1]
          rintro e w4 ⟨rfl, t4, u4⟩
          have T4 := Lib.hid t4
          have B4 := Lib.hid (u4.belowT (B3.out.alloc B3.out.size _) m1 m2 m3)
          have hbx4 := ((RB.out).below B4.out).cell
          clear t4 u4 T3 B3 hbx
          go_wp2_with fail
          refine (plain_any r _).mono ?_
          rintro e w5 ⟨rfl, b5⟩
          have T5 := Lib.hid (T4.out.below b5)
          have B5 := Lib.hid (B4.out.trans (b5.mono B4.out.size))
          clear b5 T4 B4 hbx4
          go_wp2_with fail
          refine (refvalid_any r _).mono ?_
          rw [hok]
          rintro e w6 ⟨rfl, b6⟩
          have T6 := Lib.hid (T5.out.below b6)
          have B6 := Lib.hid (B5.out.trans (b6.mono B5.out.size))
          have hbx6 := ((RB.out).below B6.out).cell
          clear b6 T5 B5
          go_wp2_with fail
          refine (tr_feed g bs bl 1 _ a r _ T6.out).mono ?_
          rw [F.out.2.2.1, F.out.2.2.2.1]
          rintro e w7 ⟨rfl, t7, u7⟩
          have T7 := Lib.hid t7
          have B7 := Lib.hid (u7.belowT B6.out m1 m2 m3)
          clear t7 u7 T6 B6 hbx6
          go_wp2_with fail
          refine (tr_win g bs bl 1 _ _ T7.out).mono ?_
          rw [F.out.2.2.2.2.1]
          rintro e w8 ⟨rfl, t8, u8⟩
          have T8 := Lib.hid t8
          have B8 := Lib.hid (u8.belowT B7.out m1 m2 m3)
          have hbx8 := ((RB.out).below B8.out).cell
          have sb8 : w.heap.size < w8.heap.size := ((RB.out).below B8.out).lt
          clear t8 u8 T7 B7
          have heq := r.eqb_self
          go_wp2_with fail
          refine (tr_waiting g bs bl 1 _ _ (T8.out.below ((Below.refl _ _).alloc (Nat.le_refl _) _))).mono ?_
          rw [FWs.out]
          rintro e w9 ⟨v, rfl, o9, b9⟩
          obtain ⟨A, cap, rfl⟩ := own_one_len o9
          have T9 := Lib.hid ((T8.out.below ((Below.refl _ _).alloc (Nat.le_refl _) _)).below b9)
          have B9 := Lib.hid ((B8.out.alloc B8.out.size _).trans (b9.mono (B8.out.alloc B8.out.size _).size))
          clear o9 b9 T8 B8 hbx8 sb8
          go_wp2_with fail
          refine (tr_finish g bs bl 1 _ a _ T9.out).mono ?_
          rw [F.out.2.2.2.2.2.1, F.out.2.2.2.2.2.2.1]
          rintro e w10 ⟨rfl, t10, u10⟩
          have T10 := Lib.hid t10
          have B10 := Lib.hid (u10.belowT B9.out m1 m2 m3)
          clear t10 u10 T9 B9
          go_wp2_with fail
          refine (tr_win g bs bl 1 _ _ T10.out).mono ?_
          rw [F.out.2.2.2.2.2.2.2.1]
          simp only [Row.zero]
          rintro e w11 ⟨rfl, t11, u11⟩
          have T11 := Lib.hid t11
          have B11 := Lib.hid (u11.belowT B10.out m1 m2 m3)
          have hbx11 := ((RB.out).below B11.out).cell
          have sb11 : w.heap.size < w11.heap.size := ((RB.out).below B11.out).lt
          clear t11 u11 T10 B10
          go_wp2_with fail
          refine (tr_feed g bs bl 1 _ a r _ (T11.out.below ((Below.refl _ _).alloc (Nat.le_refl _) _))).mono ?_
          rw [F.out.2.2.2.2.2.2.2.2.1, F.out.2.2.2.2.2.2.2.2.2.1]
          rintro e w12 ⟨rfl, t12, u12⟩
          have T12 := Lib.hid t12
          have B12 := Lib.hid (u12.belowT (B11.out.alloc B11.out.size _) m1 m2 m3)
          clear t12 u12 T11 B11 hbx11 sb11
          go_wp2_with fail
          refine (tr_finish g bs bl 1 _ a _ T12.out).mono ?_
          rw [F.out.2.2.2.2.2.2.2.2.2.2.1, F.out.2.2.2.2.2.2.2.2.2.2.2.1]
          rintro e w13 ⟨rfl, t13, u13⟩
          have T13 := Lib.hid t13
          have B13 := Lib.hid (u13.belowT B12.out m1 m2 m3)
          clear t13 u13 T12 B12
          go_wp2_with fail
          refine (tr_finish g bs bl 1 _ i _ T13.out).mono ?_
          rw [F.out.2.2.2.2.2.2.2.2.2.2.2.2.1, F.out.2.2.2.2.2.2.2.2.2.2.2.2.2.1]
          rintro e w14 ⟨rfl, t14, u14⟩
          have T14 := Lib.hid t14
          have B14 := Lib.hid (u14.belowT B13.out m1 m2 m3)
          have hbx14 := ((RB.out).below B14.out).cell
          clear t14 u14 T13 B13
          go_wp2_with fail
          refine (tr_feed g bs bl 1 _ (-1) r _ T14.out).mono ?_
          rw [F.out.2.2.2.2.2.2.2.2.2.2.2.2.2.2.1]
          rintro e w15 ⟨rfl, t15, u15⟩
          have B15 := Lib.hid (u15.belowT B14.out m1 m2 m3)
          clear t15 u15 T14 B14 hbx14
          go_wp2
          go_ret
          exact ⟨rfl, WB.out.trans (B15.out.mono WB.out.size)⟩
  · have key : k < 1 ∨ (1 ≤ k ∧ 64 < k) ∨ (1 ≤ k ∧ k ≤ 64 ∧ a < 0) ∨ (1 ≤ k ∧ k ≤ 64 ∧ 0 ≤ a ∧ k ≤ a) := by omega
    clear hin
    rcases key with h | ⟨h, h1⟩ | ⟨h, h1, h2⟩ | ⟨h, h1, h2, h3⟩
    all_goals
      go_enter Try.func5, Try.ntmps5
      go_wp2_with (go_at_call 9; refine (anchor_any _).mono ?_; rintro e w1 ⟨rfl, b1⟩)
      go_ret
      exact ⟨rfl, ((Below.refl _ _).alloc (Nat.le_refl _) _).trans (b1.mono (by simp))⟩
end Go.Proofs.Ytgcfpepaapdjoaa
