/- The walk of the law of ties: of sources that hold alike rows the smallest number wins each time. -/
import Derived.Test.YtgcfpepaapdjoaaY
namespace Go.Proofs.Ytgcfpepaapdjoaa
open Go.RowKit

def tie (n i : Nat) : Row := ⟨3, n, 0, 0, i, 0, ByteArray.empty⟩
theorem tie_ok (n i : Nat) (hn : n ≤ 5) (hi : i ≤ 64) : (tie n i).ok = true := by
  rw [Row.ok_iff]
  unfold Row.Right tie
  simp only []
  refine ⟨by omega, by omega, by omega, by omega, by omega, by omega, by decide⟩
/-- Behind the first i feeds. -/
def feds (i j : Nat) : Src := if j < i then ⟨1, tie 0 j⟩ else Src.zero
/-- In round n, i of the sources being fed anew. -/
def rnd (n i j : Nat) : Src := if j < i then ⟨1, tie (n + 1) j⟩ else ⟨1, tie n j⟩
theorem feds_step (k i : Nat) (hi : i < k) (hk : k ≤ 64) : feedA (Gs (feds i) k) i (tie 0 i) = 0 ∧ feedS (Gs (feds i) k) i (tie 0 i) = Gs (feds (i + 1)) k := by
  obtain ⟨h1, h2⟩ := feed_at (xs := Gs (feds i) k) (i := i) (r := tie 0 i) (by rw [Gs_length]; exact hi) (by rw [Gs_at _ _ _ hi]; unfold feds; rw [if_neg (by omega)]; rfl) (tie_ok 0 i (by omega) (by omega))
  refine ⟨h1, ?_⟩
  rw [h2, Gs_set _ _ _ _ hi]
  apply Gs_congr
  intro j hj
  unfold feds
  by_cases e : j = i
  · subst e; rw [if_pos rfl, if_pos (by omega)]
  · rw [if_neg e]
    by_cases c : j < i
    · rw [if_pos c, if_pos (by omega)]
    · rw [if_neg c, if_neg (by omega)]
theorem rnd_full (n i j : Nat) : (rnd n i j).st = 1 := by unfold rnd; split <;> rfl
theorem cmp_tie (n m i j : Nat) : cmpRow 2 (tie n i) (tie m j) = cmpI n m := by
  unfold cmpRow tie
  rw [if_neg (by omega), if_pos rfl, orI3]
  unfold cmpI
  simp only []
  repeat' split
  all_goals omega
theorem rnd_win (k n i : Nat) (hi : i < k) : winA 2 (Gs (rnd n i) k) = ((((i : Nat) : Int), tie n i, (0 : Int)), Gs (fun j => if j = i then Src.zero else rnd n i j) k) := by
  have ei : at' (Gs (rnd n i) k) i = ⟨1, tie n i⟩ := by rw [Gs_at _ _ _ hi]; unfold rnd; rw [if_neg (by omega)]
  rw [winA_of 2 (.inr rfl) _ (Gs_full fun j _ => .inl (rnd_full n i j)) i (by rw [Gs_length]; exact hi) (by rw [ei]) ?_, ei, Gs_set _ _ _ _ hi]
  intro j hj hne
  rw [Gs_length] at hj
  unfold bt
  rw [ei, Gs_at _ _ _ hj]
  unfold beatsS
  simp only []
  rw [if_pos (rnd_full n i j).symm, if_pos trivial]
  by_cases c : j < i
  · have er : (rnd n i j).row = tie (n + 1) j := by unfold rnd; rw [if_pos c]
    have ec : cmpI ((n : Nat) : Int) ((n + 1 : Nat) : Int) = -1 := by unfold cmpI; rw [if_pos (by omega)]
    rw [er, cmp_tie, ec]
    rfl
  · have er : (rnd n i j).row = tie n j := by unfold rnd; rw [if_neg c]
    have ec : cmpI ((n : Nat) : Int) ((n : Nat) : Int) = 0 := by unfold cmpI; rw [if_neg (by omega), if_neg (by omega)]
    rw [er, cmp_tie, ec, if_pos rfl]
    simp
    omega
theorem rnd_step (k n i : Nat) (hi : i < k) (hk : k ≤ 64) (hn : n < 4) : feedA (Gs (fun j => if j = i then Src.zero else rnd n i j) k) i (tie (n + 1) i) = 0 ∧
    feedS (Gs (fun j => if j = i then Src.zero else rnd n i j) k) i (tie (n + 1) i) = Gs (rnd n (i + 1)) k := by
  obtain ⟨h1, h2⟩ := feed_at (xs := Gs (fun j => if j = i then Src.zero else rnd n i j) k) (i := i) (r := tie (n + 1) i) (by rw [Gs_length]; exact hi) (by rw [Gs_at _ _ _ hi, if_pos rfl]; rfl) (tie_ok _ i (by omega) (by omega))
  refine ⟨h1, ?_⟩
  rw [h2, Gs_set _ _ _ _ hi]
  apply Gs_congr
  intro j hj
  unfold rnd
  by_cases e : j = i
  · subst e; rw [if_pos rfl, if_pos (by omega)]
  · rw [if_neg e, if_neg e]
    by_cases c : j < i
    · rw [if_pos c, if_pos (by omega)]
    · rw [if_neg c, if_neg (by omega)]
theorem rnd_next (k n : Nat) : Gs (rnd n k) k = Gs (rnd (n + 1) 0) k := by
  apply Gs_congr
  intro j hj
  unfold rnd
  rw [if_pos hj, if_neg (by omega)]
theorem feds_done (k : Nat) : Gs (feds k) k = Gs (rnd 0 0) k := by
  apply Gs_congr
  intro j hj
  unfold feds rnd
  rw [if_pos hj, if_neg (by omega)]
theorem feds_none (k : Nat) : List.replicate k Src.zero = Gs (feds 0) k := by
  apply Gs_ext (by simp)
  intro j hj
  rw [at'_replicate]
  unfold feds
  rw [if_neg (by omega)]
theorem rnd_waits (k n : Nat) : waitsTo (Gs (rnd n 0) k) (Gs (rnd n 0) k).length = [] := by
  unfold waitsTo
  rw [Gs_length, List.filter_eq_nil_iff]
  intro i hi
  rw [List.mem_range] at hi
  rw [Gs_at _ _ _ hi, rnd_full]
  decide
theorem own_nil_len {w : World} {base : Nat} {v : Value} (h : Own w base 3 1 natCell v []) : ∃ a cap, v = .slice a 0 cap := by
  rcases h.cases with ⟨rfl, _⟩ | ⟨g, cap, rest, rfl, _⟩
  · exact ⟨none, 0, rfl⟩
  · exact ⟨_, cap, rfl⟩

set_option maxHeartbeats 1600000 in
theorem ties_walk (k : Int) (w : World) : Calls Try.prog 3 #[.int .i64 k] w fun e w' => e = .returned (.bool true) ∧ Below w.heap.size w w' := by
  have hu29 := Try.underlying29
  by_cases h1 : k < 1
  · go_enter Try.func3, Try.ntmps3
    go_wp2_with (go_at_call 9; refine (anchor_any _).mono ?_; rintro e w1 ⟨rfl, b1⟩)
    go_ret
    exact ⟨rfl, b1⟩
  · by_cases h2 : 64 < k
    · go_enter Try.func3, Try.ntmps3
      go_wp2_with (go_at_call 9; refine (anchor_any _).mono ?_; rintro e w1 ⟨rfl, b1⟩)
      go_ret
      exact ⟨rfl, b1⟩
    · obtain ⟨k, rfl⟩ : ∃ m : Nat, k = m := ⟨k.toNat, by omega⟩
      have k1 : 1 ≤ k := by omega
      have k2 : k ≤ 64 := by omega
      go_enter Try.func3, Try.ntmps3
      go_wp2_with fail
      refine (anchor_any _).mono ?_
      rintro e w1 ⟨rfl, b1⟩
      go_wp2_with fail
      refine (tr_new 2 k _ (.inr rfl) k1 k2).mono ?_
      rintro e w2 ⟨g, bs, bl, rfl, t2, b2, n1, n2, n3⟩
      have s1 := b1.size
      rw [feds_none] at t2
      have T2 := Lib.hid t2
      have B2 := Lib.hid (b1.trans (b2.mono b1.size))
      have m1 : w.heap.size ≤ g := by omega
      have m2 : w.heap.size ≤ bs := by omega
      have m3 : w.heap.size ≤ bl := by omega
      clear t2 b1 b2 n1 n2 n3 s1 h1 h2
      go_wp2_with fail
      go_loopw [5] (fun i wr => ∃ n : Nat, i = .int .i64 n ∧ n ≤ k ∧ Hid (Tr wr g bs bl 2 (Gs (feds n) k)) ∧ Hid (Below w.heap.size w wr)) (fun i _ => k - (intOf i).toNat)
      case atStart => exact ⟨0, rfl, by omega, T2.out, B2.out⟩
      case round =>
        obtain ⟨n, rfl, hn, TR, BR⟩ := hrel
        clear T2 B2
        by_cases hlt : n < k
        · have F := Lib.hid (feds_step k n hlt k2)
          go_wp2_with fail
          refine (tr_feed g bs bl 2 _ n (tie 0 n) _ TR.out).mono ?_
          rw [F.out.1, F.out.2]
          rintro e w3 ⟨rfl, t3, u3⟩
          have T3 := Lib.hid t3
          have B3 := Lib.hid (u3.belowT BR.out m1 m2 m3)
          clear t3 u3 TR BR F
          go_wp2_with fail
          go_roundw
          case rel => exact ⟨n + 1, by go_num, by omega, T3.out, B3.out⟩
          case measure => simp [intOf]; omega
        · obtain rfl : n = k := by omega
          have TF := Lib.hid (show Tr wr g bs bl 2 (Gs (rnd 0 0) n) by rw [← feds_done]; exact TR.out)
          clear TR
          go_wp2_with fail
          go_loopw [6] (fun i wo => ∃ m : Nat, i = .int .i64 m ∧ m ≤ 4 ∧ Hid (Tr wo g bs bl 2 (Gs (rnd m 0) n)) ∧ Hid (Below w.heap.size w wo)) (fun i _ => 4 - (intOf i).toNat)
          case atStart => exact ⟨0, rfl, by omega, TF.out, BR.out⟩
          case round =>
            obtain ⟨m, rfl, hm, TO, BO⟩ := hrel
            obtain ⟨wo, rfl⟩ : ∃ wo : World, wo = wr := ⟨_, rfl⟩
            clear TF BR
            by_cases hm4 : m < 4
            · have hd : decide ((m : Int) < 4) = true := decide_eq_true (by omega)
              go_wp2_with fail
              go_loopw [7] (fun i wi => ∃ j : Nat, i = .int .i64 j ∧ j ≤ n ∧ Hid (Tr wi g bs bl 2 (Gs (rnd m j) n)) ∧ Hid (Below w.heap.size w wi)) (fun i _ => n - (intOf i).toNat)
              case atStart => exact ⟨0, rfl, by omega, TO.out, BO.out⟩
              case round =>
                obtain ⟨j, rfl, hj, TI, BI⟩ := hrel
                clear TO BO
                by_cases hjn : j < n
                · have F1 := Lib.hid (rnd_win n m j hjn)
                  have F2 := Lib.hid (rnd_step n m j hjn k2 hm4)
                  go_wp2_with fail
                  refine (tr_win g bs bl 2 _ _ TI.out).mono ?_
                  rw [F1.out]
                  rintro e w3 ⟨rfl, t3, u3⟩
                  have T3 := Lib.hid t3
                  have B3 := Lib.hid (u3.belowT BI.out m1 m2 m3)
                  have s3 := B3.out.size
                  clear t3 u3 TI BI F1
                  simp only [tie]
                  go_wp2_with fail
                  refine (tr_feed g bs bl 2 _ j (tie (m + 1) j) _ (T3.out.turn (S := fun _ => False) ((Turn.refl _ _).alloc _) id id id)).mono ?_
                  rw [F2.out.1, F2.out.2]
                  rintro e w4 ⟨rfl, t4, u4⟩
                  have T4 := Lib.hid t4
                  have B4 := Lib.hid (u4.belowT (B3.out.alloc s3 _) m1 m2 m3)
                  clear t4 u4 T3 B3 F2
                  go_wp2_with fail
                  go_roundw
                  case rel => exact ⟨j + 1, by go_num, by omega, T4.out, B4.out⟩
                  case measure => simp [intOf]; omega
                · obtain rfl : j = n := by omega
                  have TN := Lib.hid (show Tr wr g bs bl 2 (Gs (rnd (m + 1) 0) j) by rw [← rnd_next]; exact TI.out)
                  clear TI
                  go_wp2_with fail
                  go_roundw
                  case rel => exact ⟨m + 1, by go_num, by omega, TN.out, BI.out⟩
                  case measure => simp [intOf]; omega
            · obtain rfl : m = 4 := by omega
              go_wp2_with fail
              refine (tr_waiting g bs bl 2 _ _ TO.out).mono ?_
              rw [rnd_waits]
              rintro e w5 ⟨v, rfl, o5, b5⟩
              obtain ⟨a, cap, rfl⟩ := own_nil_len o5
              go_wp2
              go_ret
              exact ⟨rfl, BO.out.trans (b5.mono BO.out.size)⟩
end Go.Proofs.Ytgcfpepaapdjoaa
