/- The walk of the law of shared beats. -/
import Derived.Test.YtcfdpeafnpeddaaRefuses
import Derived.Test.YtcfdpeafnpeddaaOpen
namespace Go.Proofs.Ytcfdpeafnpeddaa
set_option linter.unusedVariables false
set_option linter.unusedSimpArgs false
open Go.Conc Go.RowKit Go.MuLone

theorem cellsOf4 : Try.prog.cellsOf 4 = 1 := by kernel_rfl
def tri (r u v a b : Int) : List St := [⟨-1, r, a⟩, ⟨0, u, b⟩, ⟨0, v, b⟩]
theorem tri_under {r u v a b : Int} : Under (tri r u v a b) 0 1 ∧ Under (tri r u v a b) 0 2 := ⟨.step (p := 0) rfl .self, .step (p := 0) rfl .self⟩
theorem tri_end (r u v : Int) : endS (tri r u v 0 0) 0 2 = tri r u v 2 3 := by
  refine ns_ext (by rw [endS_length]; rfl) fun k hk => ?_
  rw [endS_length] at hk
  rw [endS_ns _ _ _ _ hk]
  have hk3 : k < 3 := hk
  unfold endAt
  match k, hk3 with
  | 0, _ => rw [if_pos ⟨rfl, .self⟩]; rfl
  | 1, _ => rw [if_pos ⟨rfl, tri_under.1⟩]; rfl
  | 2, _ => rw [if_pos ⟨rfl, tri_under.2⟩]; rfl
theorem tri_beat1 (r u v : Int) (hu : r = 0 ∨ u ≠ 0) : beatF (tri r u v 0 0) 1 = if r = 0 then (false, tri r u v 2 3) else (true, tri (r - 1) (u - 1) v 0 0) := by
  have e : spentG (tri r u v 0 0) (1 + 1) ((1 : Nat) : Int) (-1) = if r = 0 then 0 else if u = 0 then 1 else -1 := rfl
  have e2 : decG (1 + 1) ((1 : Nat) : Int) (tri r u v 0 0) = tri (r - 1) (u - 1) v 0 0 := rfl
  unfold beatF
  rw [if_pos (show (ns (tri r u v 0 0) 1).cause = 0 from rfl), e, e2]
  by_cases h : r = 0
  · rw [if_pos h, if_pos h, if_pos (by omega), show ((0 : Int)).toNat = 0 from rfl, tri_end]
  · rw [if_neg h, if_neg h, if_neg (hu.resolve_left h), if_neg (by omega)]
theorem tri_beat2 (r u v : Int) (hu : r = 0 ∨ v ≠ 0) : beatF (tri r u v 0 0) 2 = if r = 0 then (false, tri r u v 2 3) else (true, tri (r - 1) u (v - 1) 0 0) := by
  have e : spentG (tri r u v 0 0) (2 + 1) ((2 : Nat) : Int) (-1) = if r = 0 then 0 else if v = 0 then 2 else -1 := rfl
  have e2 : decG (2 + 1) ((2 : Nat) : Int) (tri r u v 0 0) = tri (r - 1) u (v - 1) 0 0 := rfl
  unfold beatF
  rw [if_pos (show (ns (tri r u v 0 0) 2).cause = 0 from rfl), e, e2]
  by_cases h : r = 0
  · rw [if_pos h, if_pos h, if_pos (by omega), show ((0 : Int)).toNat = 0 from rfl, tri_end]
  · rw [if_neg h, if_neg h, if_neg (hu.resolve_left h), if_neg (by omega)]
theorem tri_dead (r u v : Int) (i : Nat) (hi : i = 1 ∨ i = 2) : beatF (tri r u v 2 3) i = (false, tri r u v 2 3) := by
  unfold beatF
  rcases hi with rfl | rfl
  · rw [if_neg (show ¬ (ns (tri r u v 2 3) 1).cause = 0 from (by decide : ¬ (3 : Int) = 0))]
  · rw [if_neg (show ¬ (ns (tri r u v 2 3) 2).cause = 0 from (by decide : ¬ (3 : Int) = 0))]
theorem tri_inv (r u v : Int) (a b : Int) (hr : 0 ≤ r ∧ r ≤ 1099511627776) (hu : 0 ≤ u ∧ u ≤ 1099511627776) (hv : 0 ≤ v ∧ v ≤ 1099511627776) (hab : a ≠ 0 → b ≠ 0) : SInv (tri r u v a b) := by
  refine ⟨⟨fun k hk => ?_, fun k hk h => ?_, rfl⟩, fun k p hp hc => ?_, fun k hk => ?_, by simp [tri], by simp [tri]⟩
  · have hk3 : k < 3 := hk
    match k, hk3 with
    | 0, _ => show (-1 : Int) < _; omega
    | 1, _ => show (0 : Int) < _; omega
    | 2, _ => show (0 : Int) < _; omega
  · have hk3 : k < 3 := hk
    match k, hk3 with
    | 1, _ => show (0 : Int) ≤ 0; omega
    | 2, _ => show (0 : Int) ≤ 0; omega
  · by_cases hk3 : k < 3
    · match k, hk3 with
      | 0, _ => have : (-1 : Int) = p := hp; omega
      | 1, _ =>
        have e : (0 : Int) = p := hp
        have : p = 0 := by omega
        subst this
        exact hab hc
      | 2, _ =>
        have e : (0 : Int) = p := hp
        have : p = 0 := by omega
        subst this
        exact hab hc
    · rw [ns_out (by simp [tri]; omega)] at hp
      have : (-1 : Int) = p := hp
      omega
  · have hk3 : k < 3 := hk
    match k, hk3 with
    | 0, _ => exact hr
    | 1, _ => exact hu
    | 2, _ => exact hv
/-- The state behind k turns. -/
def TriAt (n : Nat) (k : Nat) (st : List St) : Prop :=
  (∃ p q : Nat, p + q = k ∧ k ≤ n ∧ st = tri ((n : Int) - k) (1099511627776 - p) (1099511627776 - q) 0 0) ∨ (n < k ∧ ∃ u v : Int, (0 ≤ u ∧ u ≤ 1099511627776) ∧ (0 ≤ v ∧ v ≤ 1099511627776) ∧ st = tri 0 u v 2 3)
theorem TriAt.inv {n k : Nat} {st : List St} (h : TriAt n k st) (hn : n ≤ 1099511627776) : SInv st ∧ st.length = 3 := by
  rcases h with ⟨p, q, h1, h2, rfl⟩ | ⟨h1, u, v, h2, h3, rfl⟩
  · exact ⟨tri_inv _ _ _ 0 0 (by omega) (by omega) (by omega) (by decide), rfl⟩
  · exact ⟨tri_inv _ _ _ 2 3 (by omega) h2 h3 (by decide), rfl⟩
theorem TriAt.beat {n k : Nat} {st : List St} (h : TriAt n k st) (hn : n ≤ 1099511627776) (i : Nat) (hi : i = 1 ∨ i = 2) : (beatF st i).1 = decide ((k : Int) < n) ∧ TriAt n (k + 1) (beatF st i).2 := by
  rcases h with ⟨p, q, h1, h2, rfl⟩ | ⟨h1, u, v, h2, h3, rfl⟩
  · by_cases hk : k = n
    · subst hk
      have e : beatF (tri ((k : Int) - k) (1099511627776 - p) (1099511627776 - q) 0 0) i = (false, tri ((k : Int) - k) (1099511627776 - p) (1099511627776 - q) 2 3) := by
        rcases hi with rfl | rfl
        · rw [tri_beat1 _ _ _ (.inl (by omega)), if_pos (by omega)]
        · rw [tri_beat2 _ _ _ (.inl (by omega)), if_pos (by omega)]
      rw [e]
      refine ⟨by simp, .inr ⟨by omega, 1099511627776 - p, 1099511627776 - q, by omega, by omega, ?_⟩⟩
      simp
    · have hlt : k < n := by omega
      rcases hi with rfl | rfl
      · rw [tri_beat1 _ _ _ (.inr (by omega)), if_neg (by omega)]
        refine ⟨by simp; omega, .inl ⟨p + 1, q, by omega, by omega, ?_⟩⟩
        rw [show ((n : Int) - ((k + 1 : Nat) : Int)) = n - k - 1 by omega, show ((1099511627776 : Int) - ((p + 1 : Nat) : Int)) = 1099511627776 - p - 1 by omega]
      · rw [tri_beat2 _ _ _ (.inr (by omega)), if_neg (by omega)]
        refine ⟨by simp; omega, .inl ⟨p, q + 1, by omega, by omega, ?_⟩⟩
        rw [show ((n : Int) - ((k + 1 : Nat) : Int)) = n - k - 1 by omega, show ((1099511627776 : Int) - ((q + 1 : Nat) : Int)) = 1099511627776 - q - 1 by omega]
  · rw [tri_dead 0 u v i hi]
    exact ⟨by simp; omega, .inr ⟨by omega, u, v, h2, h3, rfl⟩⟩
theorem tri_child (n : Int) : childF [⟨-1, n, 0⟩, ⟨0, 1099511627776, 0⟩] 0 1099511627776 = (0, tri n 1099511627776 1099511627776 0 0) := by
  unfold childF
  rw [if_pos (by decide), if_neg (by simp)]
  rfl
set_option maxRecDepth 100000 in
set_option maxHeartbeats 3200000 in
theorem shared_walk (n : Int) (A : Option Addr) (m cap : Nat) (xs : List Bool) (hm : xs.length = m) (hml : m ≤ maxLen) (w : World) (hR : SliceRd w A 1 cellB xs) :
    Calls Try.prog 4 #[.int .i64 n, .slice A m cap] w fun e w' => e = .returned (.bool true) ∧ Below w.heap.size w w' := by
  have HR := Lib.hid hR
  have hml' : m ≤ 9223372036854775807 := by unfold maxLen at hml; omega
  clear hR hml
  by_cases hn : 0 ≤ n ∧ n ≤ 1099511627776
  · obtain ⟨n, rfl⟩ : ∃ k : Nat, n = k := ⟨n.toNat, by omega⟩
    have n1 : n ≤ 1099511627776 := by omega
    have Q1 := Lib.hid (one_child (n : Int) 1099511627776 (by decide) (by decide))
    have Q2 := Lib.hid (tri_child (n : Int))
    clear hn
    go_enter Try.func4, Try.ntmps4
    go_wp2_with fail
    refine (anchor_any _).mono ?_
    rintro e w0 ⟨rfl, bb0⟩
    have B0 := Lib.hid bb0
    clear bb0
    go_wp2_with fail
    refine (new_yes n w0 (by omega) (by omega)).mono ?_
    rintro e w1 ⟨x, rfl, h1, bb1, ho⟩
    have H1 := Lib.hid h1
    have B1 := Lib.hid (B0.out.trans (bb1.mono B0.out.size))
    have HO := Lib.hid (fun b hb => Nat.le_trans B0.out.size (ho b hb))
    clear h1 bb1 ho
    go_wp2_with fail
    refine (child_any x _ 0 1099511627776 w1 H1.out (by simp) (one_inv n 0 (by omega) (by omega))).mono ?_
    rw [Q1.out]
    rintro e w2 ⟨y, rfl, h2, t2, o2, hB2⟩
    have H2 := Lib.hid h2
    have B2 := Lib.hid (Turn.ownB t2 B1.out HO.out)
    have YO := Lib.hid (show ∀ b, y.own 2 b → w.heap.size ≤ b from fun b hb => by
      rcases o2 b hb with h | h
      · exact HO.out b h
      · exact Nat.le_trans B1.out.size h)
    have E0 := Lib.hid (hB2 0 (by simp))
    clear h2 t2 o2 hB2 H1 HO
    simp only [List.length_cons, List.length_nil, Nat.zero_add, if_true]
    have hI2 : SInv [⟨-1, (n : Int), 0⟩, ⟨0, 1099511627776, 0⟩] := by
      have := (one_inv n 0 (by omega) (by omega)).child 0 (by simp) 1099511627776
      rw [Q1.out] at this
      exact this
    have HI2 := Lib.hid hI2
    clear hI2
    go_wp2_with fail
    rw [← E0.out]
    refine (child_any y _ 0 1099511627776 w2 H2.out (by simp) HI2.out).mono ?_
    rw [Q2.out]
    rintro e w3 ⟨z, rfl, h3, t3, o3, hB3⟩
    have H3 := Lib.hid h3
    have B3 := Lib.hid (Turn.ownB t3 B2.out YO.out)
    have ZO := Lib.hid (show ∀ b, z.own 3 b → w.heap.size ≤ b from fun b hb => by
      rcases o3 b hb with h | h
      · exact YO.out b h
      · exact Nat.le_trans B2.out.size h)
    have F0 := Lib.hid (hB3 0 (by simp))
    have F1 := Lib.hid (hB3 1 (by simp))
    clear h3 t3 o3 hB3 H2 YO
    simp only [List.length_cons, List.length_nil, Nat.zero_add, Nat.reduceAdd, if_true]
    rw [← F1.out, ← F0.out]
    go_wp2
    go_loopw [59] (fun v wr => ∃ k : Nat, v = .int .i64 k ∧ k ≤ m ∧ Hid (∃ st, TriAt n k st ∧ HT wr z 0 st) ∧ Hid (Below w.heap.size w wr)) (fun v _ => m - (intOf v).toNat)
    case atStart => exact ⟨0, rfl, by omega, ⟨_, .inl ⟨0, 0, rfl, by omega, by simp⟩, H3.out⟩, B3.out⟩
    case round =>
      obtain ⟨k, rfl, hk, HS, HB⟩ := hrel
      by_cases hlt : k < m
      · obtain ⟨q, hq⟩ : ∃ q, xs[k]? = some q := ⟨_, List.getElem?_eq_getElem (by omega)⟩
        obtain ⟨b, off, rfl, hb, hc⟩ := (HR.out.below HB.out).at hq
        have c0 := hc 0 (by omega)
        simp only [cellB, List.getElem?_cons_zero, Nat.add_zero, Nat.mul_one] at c0
        obtain ⟨st, hst, hht⟩ := HS.out
        have hinv := hst.inv n1
        have ht1 := hst.beat n1 1 (.inl rfl)
        have ht2 := hst.beat n1 2 (.inr rfl)
        have HH := Lib.hid hht
        have HV := Lib.hid hinv
        have T1 := Lib.hid ht1
        have T2 := Lib.hid ht2
        clear hc hst hht hinv ht1 ht2 HS
        cases q
        · go_wp2_with fail
          refine (beat_any z st 2 _ HH.out (by rw [HV.out.2]; omega) HV.out.1).mono ?_
          rintro e w4 ⟨rfl, h4, t4⟩
          rw [T2.out.1]
          have H4 := Lib.hid h4
          rw [HV.out.2] at t4
          have B4 := Lib.hid (Turn.ownB t4 HB.out ZO.out)
          clear h4 t4
          by_cases hkn : (k : Int) < n
          · have hd : decide ((k : Int) < n) = true := decide_eq_true hkn
            go_wp2
            go_roundw
            case rel => exact ⟨k + 1, by go_num, by omega, ⟨_, T2.out.2, H4.out⟩, B4.out⟩
            case measure => simp [intOf]; omega
          · have hd : decide ((k : Int) < n) = false := decide_eq_false hkn
            go_wp2
            go_roundw
            case rel => exact ⟨k + 1, by go_num, by omega, ⟨_, T2.out.2, H4.out⟩, B4.out⟩
            case measure => simp [intOf]; omega
        · go_wp2_with fail
          refine (beat_any z st 1 _ HH.out (by rw [HV.out.2]; omega) HV.out.1).mono ?_
          rintro e w4 ⟨rfl, h4, t4⟩
          rw [T1.out.1]
          have H4 := Lib.hid h4
          rw [HV.out.2] at t4
          have B4 := Lib.hid (Turn.ownB t4 HB.out ZO.out)
          clear h4 t4
          by_cases hkn : (k : Int) < n
          · have hd : decide ((k : Int) < n) = true := decide_eq_true hkn
            go_wp2
            go_roundw
            case rel => exact ⟨k + 1, by go_num, by omega, ⟨_, T1.out.2, H4.out⟩, B4.out⟩
            case measure => simp [intOf]; omega
          · have hd : decide ((k : Int) < n) = false := decide_eq_false hkn
            go_wp2
            go_roundw
            case rel => exact ⟨k + 1, by go_num, by omega, ⟨_, T1.out.2, H4.out⟩, B4.out⟩
            case measure => simp [intOf]; omega
      · have e : k = m := by omega
        subst e
        obtain ⟨st, hst, hht⟩ := HS.out
        clear HS
        rcases hst with ⟨p, q, h1, h2, rfl⟩ | ⟨h1, u, v, h2, h3, rfl⟩
        · have HH := Lib.hid hht
          clear hht h1
          go_wp2_with fail
          refine (cause_any z _ 0 _ HH.out (by simp [tri])).mono ?_
          rintro e w4 ⟨rfl, h4, t4⟩
          have H4 := Lib.hid h4
          have B4 := Lib.hid (Turn.ownB t4 HB.out ZO.out)
          clear h4 t4 HH HB
          simp only [ns, tri, List.getD_cons_zero]
          go_wp2_with fail
          refine (left_any z _ 0 _ H4.out (by simp [tri])).mono ?_
          rintro e w5 ⟨rfl, h5, t5⟩
          have B5 := Lib.hid (Turn.ownB t5 B4.out ZO.out)
          clear h5 t5 H4 B4
          simp only [ns, tri, List.getD_cons_zero]
          go_wp2
          go_ret
          exact ⟨rfl, B5.out⟩
        · have HH := Lib.hid hht
          clear hht h2 h3
          go_wp2_with fail
          refine (cause_any z _ 0 _ HH.out (by simp [tri])).mono ?_
          rintro e w4 ⟨rfl, h4, t4⟩
          have H4 := Lib.hid h4
          have B4 := Lib.hid (Turn.ownB t4 HB.out ZO.out)
          clear h4 t4 HH HB
          simp only [ns, tri, List.getD_cons_zero]
          go_wp2_with fail
          refine (cause_any z _ 1 _ H4.out (by simp [tri])).mono ?_
          rintro e w5 ⟨rfl, h5, t5⟩
          have H5 := Lib.hid h5
          have B5 := Lib.hid (Turn.ownB t5 B4.out ZO.out)
          clear h5 t5 H4 B4
          simp only [ns, tri, List.getD_cons_zero, List.getD_cons_succ]
          go_wp2_with fail
          refine (cause_any z _ 2 _ H5.out (by simp [tri])).mono ?_
          rintro e w6 ⟨rfl, h6, t6⟩
          have H6 := Lib.hid h6
          have B6 := Lib.hid (Turn.ownB t6 B5.out ZO.out)
          clear h6 t6 H5 B5
          simp only [ns, tri, List.getD_cons_zero, List.getD_cons_succ]
          go_wp2_with fail
          refine (left_any z _ 0 _ H6.out (by simp [tri])).mono ?_
          rintro e w7 ⟨rfl, h7, t7⟩
          have B7 := Lib.hid (Turn.ownB t7 B6.out ZO.out)
          clear h7 t7 H6 B6
          simp only [ns, tri, List.getD_cons_zero]
          go_wp2
          go_ret
          exact ⟨rfl, B7.out⟩
  · have hb : n < 0 ∨ (0 ≤ n ∧ 1099511627776 < n) := by omega
    clear hn
    rcases hb with hb | ⟨hb, hb2⟩
    all_goals
      go_enter Try.func4, Try.ntmps4
      go_wp2_with fail
      refine (anchor_any _).mono ?_
      rintro e w0 ⟨rfl, bb0⟩
      have B0 := Lib.hid bb0
      clear bb0
      go_wp2
      go_ret
      exact ⟨rfl, B0.out⟩
end Go.Proofs.Ytcfdpeafnpeddaa
