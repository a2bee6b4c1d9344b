/- The walk of the law of a chain of stops. -/
import Derived.Test.YtcfdpeafnpeddaaMany
namespace Go.Proofs.Ytcfdpeafnpeddaa
set_option linter.unusedVariables false
set_option linter.unusedSimpArgs false
open Go.Conc Go.RowKit Go.MuLone

theorem Lst.cellAt {w : World} {x : Pl} {n base g c : Nat} (h : Lst w x n base (.slice (some ⟨g, 0, none⟩) n c)) {i : Nat} (hi : i < n) : w.cell? ⟨g, i, none⟩ = some (.pointer (some ⟨x.B i, 0, none⟩)) := by
  obtain ⟨A, cc, e1, e2⟩ := h.cell
  injection e1 with e1
  subst e1
  obtain ⟨g', e3, e4⟩ := e2 i hi
  injection e3 with e3
  injection e3 with e3
  subst e3
  exact e4
/-- Each stop hangs under the one ahead of it. -/
def Lnk (st : List St) : Prop := ∀ k, k < st.length → ns st k = ⟨(k : Int) - 1, 1000, 0⟩
theorem Lnk.child {st : List St} (h : Lnk st) {n : Nat} (hn : st.length = n + 1) (hl : n + 1 < 256) : childF st n 1000 = (0, child0 st n 1000 0) ∧ Lnk (child0 st n 1000 0) := by
  constructor
  · unfold childF childC
    rw [if_pos (by decide), if_neg (by omega), h n (by omega), if_pos rfl]
  · intro k hk
    rw [child0_length] at hk
    rw [child0_ns]
    split
    · rename_i e
      have e2 : (k : Int) - 1 = n := by omega
      rw [e2]
    · exact h k (by omega)
theorem lnk_under {st : List St} (h : ∀ k, k < st.length → (ns st k).par = (k : Int) - 1) (i : Nat) : ∀ d : Nat, i + d < st.length → Under st i (i + d) := by
  intro d
  induction d with
  | zero => intro _; exact .self
  | succ d ih =>
    intro hd
    refine .step (p := i + d) ?_ (ih (by omega))
    rw [h _ hd]
    omega
/-- What a chain is behind a cancel of the stop 'a' and i beats. -/
def Cut (a i : Nat) (st : List St) : Prop :=
  ∀ k, k < st.length → (ns st k).par = (k : Int) - 1 ∧ (ns st k).cause = (if k < a then 0 else if k = a then 1 else 3) ∧ (k < a → 1000 - (i : Int) ≤ (ns st k).left)
theorem Lnk.cancel {st : List St} (h : Lnk st) (hI : SInv st) {a : Nat} (ha : a < st.length) : cancelF st a = (true, endS st a 1) ∧ Cut a 0 (endS st a 1) ∧ (endS st a 1).length = st.length := by
  have hp : ∀ k, k < st.length → (ns st k).par = (k : Int) - 1 := fun k hk => by rw [h k hk]
  refine ⟨?_, ?_, endS_length _ _ _⟩
  · unfold cancelF
    rw [h a ha, if_pos rfl]
  · intro k hk
    rw [endS_length] at hk
    rw [endS_ns _ _ _ _ hk]
    unfold endAt
    by_cases hka : a ≤ k
    · obtain ⟨d, rfl⟩ : ∃ d, k = a + d := ⟨k - a, by omega⟩
      rw [if_pos ⟨by rw [h _ hk], lnk_under hp a d hk⟩, h _ hk]
      exact ⟨rfl, by show (if a + d = a then (1 : Int) else 3) = _; rw [if_neg (show ¬ a + d < a by omega)], fun hh => absurd hh (by omega)⟩
    · rw [if_neg (fun hh => hka (hh.2.le hI.wf)), if_pos (by omega), h _ hk]
      exact ⟨rfl, rfl, fun _ => by show (1000 : Int) - 0 ≤ 1000; omega⟩
theorem decG_less : ∀ (m : Nat) (p : Int) (st : List St), Wf st → p < st.length → ∀ k : Nat, (ns st k).left - 1 ≤ (ns (decG m p st) k).left ∧ (p < k → (ns (decG m p st) k).left = (ns st k).left) := by
  intro m
  induction m with
  | zero => intro p st _ _ k; exact ⟨by rw [decG]; omega, fun _ => rfl⟩
  | succ m ih =>
    intro p st hw hl k
    rw [decG]
    split
    · exact ⟨by omega, fun _ => rfl⟩
    · obtain ⟨q, rfl⟩ : ∃ q : Nat, p = q := ⟨p.toNat, by omega⟩
      rw [show ((q : Int)).toNat = q from by omega]
      have hql : q < st.length := by omega
      have h1 := set_left_par st q ((ns st q).left - 1) hql
      have hp := hw.par q hql
      obtain ⟨a, b⟩ := ih (ns st q).par (st.set q { ns st q with left := (ns st q).left - 1 }) (wf_congr (by simp) (fun k => (h1 k).1) hw) (by rw [List.length_set]; omega) k
      rw [ns_set _ _ _ _ hql] at a b
      by_cases hkq : k = q
      · subst hkq
        rw [if_pos rfl] at a b
        refine ⟨?_, fun hh => by omega⟩
        rw [b (by omega)]
        exact Int.le_refl _
      · rw [if_neg hkq] at a b
        exact ⟨a, fun hh => b (by omega)⟩
theorem Cut.beat {st : List St} {a i : Nat} (h : Cut a i st) (hI : SInv st) (hi : i < st.length) (hm : i < 1000) :
    (beatF st i).1 = decide (i < a) ∧ Cut a (i + 1) (beatF st i).2 ∧ (beatF st i).2.length = st.length := by
  refine ⟨?_, ?_, beatF_length hI.wf hi⟩
  all_goals unfold beatF
  all_goals by_cases hia : i < a
  all_goals rw [(h i hi).2.1]
  · have hs : spentG st (i + 1) i (-1) = -1 := by
      rcases spentG_is st (i + 1) i (-1) with e | ⟨r, q, h1, h2, h3, h4⟩
      · exact e
      · have : q = i := by omega
        subst this
        have hr := h3.le hI.wf
        have := (h r (by omega)).2.2 (by omega)
        omega
    rw [if_pos hia, if_pos rfl, hs, if_neg (by decide), decide_eq_true hia]
  · rw [if_neg hia, if_neg (by split <;> decide), decide_eq_false hia]
  · have hs : spentG st (i + 1) i (-1) = -1 := by
      rcases spentG_is st (i + 1) i (-1) with e | ⟨r, q, h1, h2, h3, h4⟩
      · exact e
      · have : q = i := by omega
        subst this
        have hr := h3.le hI.wf
        have := (h r (by omega)).2.2 (by omega)
        omega
    have hdk := decG_keeps (i + 1) (i : Int) st hI.wf (by omega)
    rw [if_pos hia, if_pos rfl, hs, if_neg (by decide)]
    intro k hk
    obtain ⟨d1, d2, d3⟩ := hdk
    simp only [d1] at hk
    simp only [d2, d3]
    obtain ⟨e1, e2, e3⟩ := h k hk
    refine ⟨e1, e2, fun hh => ?_⟩
    have := (decG_less (i + 1) i st hI.wf (by omega) k).1
    have := e3 hh
    omega
  · rw [if_neg hia, if_neg (by split <;> decide)]
    intro k hk
    obtain ⟨e1, e2, e3⟩ := h k hk
    exact ⟨e1, e2, fun hh => by have := e3 hh; show 1000 - ((i + 1 : Nat) : Int) ≤ (ns st k).left; omega⟩
/-- The child of a stopped stop is born stopped. -/
theorem Cut.child {st : List St} {a i : Nat} (h : Cut a i st) (hI : SInv st) (ha : a < st.length) (hl : st.length < 256) :
    childF st a 4 = (0, child0 st a 4 3) ∧ ns (child0 st a 4 3) st.length = ⟨a, 4, 3⟩ ∧ (beatF (child0 st a 4 3) st.length).1 = false := by
  have hc : ns (child0 st a 4 3) st.length = ⟨a, 4, 3⟩ := by rw [child0_ns, if_pos rfl]
  refine ⟨?_, hc, ?_⟩
  · unfold childF childC
    rw [if_pos (by decide), if_neg (by omega), (h a ha).2.1, if_neg (show ¬ a < a by omega)]
    simp
  · unfold beatF
    rw [hc, if_neg (show ¬ ((3 : Int) = 0) by decide)]
set_option maxRecDepth 100000 in
set_option maxHeartbeats 3200000 in
theorem below_walk (depth a : Int) (w : World) : Calls Try.prog 8 #[.int .i64 depth, .int .i64 a] w fun e w' => e = .returned (.bool true) ∧ Below w.heap.size w w' := by
  have hnot : ∀ (x : Bool) (w : World), (Op.unary .not (.bool x)).run Try.prog w = .ok (.bool (!x)) w := fun _ _ => rfl
  have hcase : (depth < 1 ∨ (¬ depth < 1 ∧ 200 < depth) ∨ (¬ depth < 1 ∧ ¬ 200 < depth ∧ a < 0) ∨ (¬ depth < 1 ∧ ¬ 200 < depth ∧ ¬ a < 0 ∧ depth ≤ a)) ∨ (∃ d c : Nat, depth = d ∧ a = c ∧ 1 ≤ d ∧ d ≤ 200 ∧ c < d) := by
    by_cases h1 : depth < 1
    · exact .inl (.inl h1)
    · by_cases h2 : 200 < depth
      · exact .inl (.inr (.inl ⟨h1, h2⟩))
      · by_cases h3 : a < 0
        · exact .inl (.inr (.inr (.inl ⟨h1, h2, h3⟩)))
        · by_cases h4 : depth ≤ a
          · exact .inl (.inr (.inr (.inr ⟨h1, h2, h3, h4⟩)))
          · exact .inr ⟨depth.toNat, a.toNat, by omega, by omega, by omega, by omega, by omega⟩
  go_enter Try.func8, Try.ntmps8
  go_wp2_with fail
  refine (anchor_any _).mono ?_
  rintro e w0 ⟨rfl, bb0⟩
  have B0 := Lib.hid bb0
  clear bb0
  rcases hcase with (h1 | ⟨h1, h2⟩ | ⟨h1, h2, h3⟩ | ⟨h1, h2, h3, h4⟩) | ⟨d, c, rfl, rfl, hd1, hd2, hcd⟩
  · go_wp2
    go_ret
    exact ⟨rfl, B0.out⟩
  · go_wp2
    go_ret
    exact ⟨rfl, B0.out⟩
  · go_wp2
    go_ret
    exact ⟨rfl, B0.out⟩
  · go_wp2
    go_ret
    exact ⟨rfl, B0.out⟩
  go_wp2_with fail
  refine (new_yes 1000 w0 (by decide) (by decide)).mono ?_
  rintro e w1 ⟨x, rfl, h1, bb1, ho⟩
  have H1 := Lib.hid h1
  have B1 := Lib.hid (B0.out.trans (bb1.mono B0.out.size))
  have HO := Lib.hid (fun b hb => Nat.le_trans B0.out.size (ho b hb))
  clear h1 bb1 ho
  have L1 : Own (w1.alloc (.cells [Value.pointer (some ⟨x.B 0, 0, none⟩)].toArray 23)) w.heap.size 23 1 ptrC (.slice (some ⟨w1.heap.size, 0, none⟩) 1 1) [x.B 0] :=
    (RowAt.new w1 23 [.pointer (some ⟨x.B 0, 0, none⟩)]).own (Nat.le_trans B1.out.size (Nat.le_refl _)) (by rfl) (by unfold maxLen; omega)
  have LL := Lib.hid (show Lst (w1.alloc (.cells [Value.pointer (some ⟨x.B 0, 0, none⟩)].toArray 23)) x 1 w.heap.size (.slice (some ⟨w1.heap.size, 0, none⟩) 1 1) from ⟨L1, fun g hg hx => by
    simp [Value.ownBlock] at hg
    have := H1.out.lt g hx
    omega⟩)
  have H2 := Lib.hid (H1.out.below ((Below.refl w1.heap.size w1).alloc (Nat.le_refl _) (.cells [Value.pointer (some ⟨x.B 0, 0, none⟩)].toArray 23)))
  have B2 := Lib.hid (B1.out.alloc B1.out.size (.cells [Value.pointer (some ⟨x.B 0, 0, none⟩)].toArray 23))
  have I1 := Lib.hid (one_inv 1000 0 (by decide) (by decide))
  have T1 := Lib.hid (show Lnk [⟨-1, 1000, 0⟩] from fun k hk => by
    have : k = 0 := by simp at hk; exact hk
    subst this
    rfl)
  clear L1 H1 B1
  go_wp2
  go_loopw [7] (fun v wr => ∃ (y : Pl) (st : List St), Hid (Lst wr y st.length w.heap.size v) ∧ st.length ≤ d ∧ Hid (HT wr y 0 st) ∧ Hid (SInv st) ∧ Hid (Lnk st) ∧ Hid (∀ b, y.own st.length b → w.heap.size ≤ b) ∧ Hid (Below w.heap.size w wr)) (fun v _ => d - sliceLen v)
  case atStart => exact ⟨x, [⟨-1, 1000, 0⟩], LL.out, by simp; omega, H2.out, I1.out, T1.out, HO.out, B2.out⟩
  case round =>
    obtain ⟨y, st, HL, hlen, HH, HI, HT3, YO, HB⟩ := hrel
    have hpos := HI.out.pos
    obtain ⟨n, hn⟩ : ∃ n, n = st.length := ⟨_, rfl⟩
    rw [← hn] at HL hlen hpos
    have YO' := YO.out
    rw [← hn] at YO'
    have YO2 := Lib.hid YO'
    have HN := Lib.hid hn
    clear hn YO' YO
    obtain ⟨vA, vc, rfl, hvc⟩ := HL.out.cell
    have hpz : (0 : Int) < n := by omega
    have HV := Lib.hid hvc
    clear hvc
    have hidx : (((n : Int) - 1).toNat) = n - 1 := by omega
    by_cases hlt : n < d
    · obtain ⟨i0, hi0, hz0, hz1, hz2⟩ := info23
      obtain ⟨g, rfl, hcell⟩ := HV.out (n - 1) (by omega)
      have hch := HT3.out.child (n := n - 1) (by rw [← HN.out]; omega) (by omega)
      have HC1 := Lib.hid hch.1
      have HC2 := Lib.hid hch.2
      have HI2 := Lib.hid (HI.out.child (n - 1) (by rw [← HN.out]; omega) 1000)
      clear hch
      go_wp2_with fail
      refine (child_any y st (n - 1) 1000 _ HH.out (by rw [← HN.out]; omega) HI.out).mono ?_
      rw [HC1.out]
      unfold ChildPost
      rw [← HN.out]
      rintro e w4 ⟨y', rfl, h4, t4, o4, hB4⟩
      rw [HC1.out] at HI2
      have hL4 := HL.out.turn t4 hB4 o4
      rw [child0_length, ← HN.out] at hL4
      have HL4 := Lib.hid hL4
      have H4 := Lib.hid h4
      have B4 := Lib.hid (Turn.ownB t4 HB.out YO2.out)
      have YO4 := Lib.hid (show ∀ b, y'.own (child0 st (n - 1) 1000 0).length b → w.heap.size ≤ b from fun b hb => by
        rcases o4 b hb with h | h
        · exact YO2.out b h
        · exact Nat.le_trans HB.out.size h)
      clear h4 t4 o4 hB4 hL4
      simp only [if_true]
      have w4s := B4.out.size
      go_wp2_with (at_builtin; refine wpList_append_own_at _ rfl _ _ 32 rfl w.heap.size 23 i0 (.pointer none) 1 8 Try.underlying32 hi0 hz0 hz1 hz2 rfl (by decide) _ _ _ rfl (HL4.out.1.alloc _) ⟨w4.heap.size, 0, none⟩ 1 1 [.pointer (some ⟨y'.B n, 0, none⟩)] rfl rfl (cell_one_new _ _ _) ?c2 ?c3 ?c4 ?c5 ?_)
      case c2 => first | rfl | (intro u hu; simp at hu; subst hu; rfl)
      case c3 => unfold maxLen; omega
      case c4 => omega
      case c5 => omega
      intro v' w5 hown' hgrow _ hob
      have hn5 := many_append HL4.out H4.out B4.out YO4.out (by rw [child0_length, ← HN.out]) hown' hgrow hob
      have N5 := Lib.hid hn5
      clear hown' hgrow hob hn5 hcell
      go_wp2
      go_roundw
      case rel => exact ⟨y', child0 st (n - 1) 1000 0, by rw [child0_length, ← HN.out]; exact N5.out.1, by rw [child0_length, ← HN.out]; omega, N5.out.2.1, HI2.out, HC2.out, YO4.out, N5.out.2.2.1⟩
      case measure => have := N5.out.2.2.2; simp only [sliceLen] at this ⊢; omega
    · have e : n = d := by omega
      subst e
      obtain ⟨g, rfl, hcell⟩ := HV.out c (by omega)
      have hcan := HT3.out.cancel HI.out (a := c) (by rw [← HN.out]; omega)
      have HC1 := Lib.hid hcan.1
      have HC2 := Lib.hid hcan.2.1
      have HC3 := Lib.hid (hcan.2.2.trans HN.out.symm)
      have HIc := Lib.hid (HI.out.end c 1 (by decide))
      clear hcan
      go_wp2_with fail
      refine (cancel_any y st c _ HH.out (by rw [← HN.out]; omega) HI.out.le HI.out.wf HI.out.con).mono ?_
      rw [HC1.out]
      unfold MPost
      rw [← HN.out]
      rintro e w4 ⟨rfl, h4, t4⟩
      have H4 := Lib.hid h4
      have L4 := Lib.hid (show Lst w4 y n w.heap.size (.slice (some ⟨g, 0, none⟩) n vc) from
        let q := HL.out.turn t4 (fun _ _ => rfl) (fun b hb => .inl hb); ⟨q.1, q.2⟩)
      have B4 := Lib.hid (Turn.ownB t4 HB.out YO2.out)
      clear h4 t4 hcell
      go_wp2
      go_loopw [10] (fun v wr => ∃ (i : Nat) (st' : List St), v = .int .i64 i ∧ i ≤ n ∧ Hid (HT wr y 0 st') ∧ Hid (SInv st') ∧ Hid (st'.length = n) ∧ Hid (Cut c i st') ∧ Hid (Lst wr y n w.heap.size (.slice (some ⟨g, 0, none⟩) n vc)) ∧ Hid (Below w.heap.size w wr)) (fun v _ => n - (intOf v).toNat)
      case atStart => exact ⟨0, _, rfl, by omega, H4.out, HIc.out, HC3.out, HC2.out, L4.out, B4.out⟩
      case round =>
        obtain ⟨i, s5, rfl, hi, HH5, HI5, HN5, HC5, HL5, HB5⟩ := hrel
        by_cases hlt2 : i < n
        · have hcell5 := HL5.out.cellAt hlt2
          have hcut := (HC5.out i (by rw [HN5.out]; exact hlt2)).2.1
          have hbt := HC5.out.beat HI5.out (i := i) (by rw [HN5.out]; exact hlt2) (by omega)
          have HBT1 := Lib.hid hbt.1
          have HBT2 := Lib.hid hbt.2.1
          have HBT3 := Lib.hid (hbt.2.2.trans HN5.out)
          have HI6 := Lib.hid (HI5.out.beat i (by rw [HN5.out]; exact hlt2))
          clear hbt
          rcases Nat.lt_trichotomy i c with hic | hic | hic
          · have hne : ¬ ((i : Int) = c) := by omega
            have d1 : decide ((i : Int) = c) = false := by exact decide_eq_false (by omega)
            have d2 : decide ((c : Int) < i) = false := by exact decide_eq_false (by omega)
            rw [if_pos hic] at hcut
            have HCU := Lib.hid hcut
            clear hcut
            go_wp2_with fail
            refine (cause_any y s5 i _ HH5.out (by rw [HN5.out]; exact hlt2)).mono ?_
            rintro e w6 ⟨rfl, h6, t6⟩
            rw [HCU.out]
            rw [HN5.out] at t6
            have H6 := Lib.hid h6
            have L6 := Lib.hid (show Lst w6 y n w.heap.size (.slice (some ⟨g, 0, none⟩) n vc) from
              let q := HL5.out.turn t6 (fun _ _ => rfl) (fun b hb => .inl hb); ⟨q.1, q.2⟩)
            have B6 := Lib.hid (Turn.ownB t6 HB5.out YO2.out)
            have hcell6 := L6.out.cellAt hlt2
            clear h6 t6 hcell5
            go_wp2_with fail
            refine (stopped_any y s5 i _ H6.out (by rw [HN5.out]; exact hlt2)).mono ?_
            rintro e w7 ⟨rfl, h7, t7⟩
            rw [HCU.out]
            rw [HN5.out] at t7
            have H7 := Lib.hid h7
            have L7 := Lib.hid (show Lst w7 y n w.heap.size (.slice (some ⟨g, 0, none⟩) n vc) from
              let q := L6.out.turn t7 (fun _ _ => rfl) (fun b hb => .inl hb); ⟨q.1, q.2⟩)
            have B7 := Lib.hid (Turn.ownB t7 B6.out YO2.out)
            have hcell7 := L7.out.cellAt hlt2
            clear h7 t7 hcell6
            have hdd : decide ((0 : Int) = 0) = true := rfl
            go_wp2_with fail
            refine (beat_any y s5 i _ H7.out (by rw [HN5.out]; exact hlt2) HI5.out).mono ?_
            rintro e w8 ⟨rfl, h8, t8⟩
            rw [HBT1.out, decide_eq_true hic]
            rw [HN5.out] at t8
            have H8 := Lib.hid h8
            have L8 := Lib.hid (show Lst w8 y n w.heap.size (.slice (some ⟨g, 0, none⟩) n vc) from
              let q := L7.out.turn t8 (fun _ _ => rfl) (fun b hb => .inl hb); ⟨q.1, q.2⟩)
            have B8 := Lib.hid (Turn.ownB t8 B7.out YO2.out)
            clear h8 t8 hcell7
            go_wp2
            go_roundw
            case rel => exact ⟨i + 1, _, by go_num, by omega, H8.out, HI6.out, HBT3.out, HBT2.out, L8.out, B8.out⟩
            case measure => simp [intOf]; omega
          · subst hic
            have d1 : decide ((i : Int) = i) = true := by exact decide_eq_true rfl
            have d2 : decide ((i : Int) < i) = false := by exact decide_eq_false (by omega)
            rw [if_neg (show ¬ i < i by omega), if_pos rfl] at hcut
            have HCU := Lib.hid hcut
            clear hcut
            go_wp2_with fail
            refine (cause_any y s5 i _ HH5.out (by rw [HN5.out]; exact hlt2)).mono ?_
            rintro e w6 ⟨rfl, h6, t6⟩
            rw [HCU.out]
            rw [HN5.out] at t6
            have H6 := Lib.hid h6
            have L6 := Lib.hid (show Lst w6 y n w.heap.size (.slice (some ⟨g, 0, none⟩) n vc) from
              let q := HL5.out.turn t6 (fun _ _ => rfl) (fun b hb => .inl hb); ⟨q.1, q.2⟩)
            have B6 := Lib.hid (Turn.ownB t6 HB5.out YO2.out)
            have hcell6 := L6.out.cellAt hlt2
            clear h6 t6 hcell5
            go_wp2_with fail
            refine (stopped_any y s5 i _ H6.out (by rw [HN5.out]; exact hlt2)).mono ?_
            rintro e w7 ⟨rfl, h7, t7⟩
            rw [HCU.out]
            rw [HN5.out] at t7
            have H7 := Lib.hid h7
            have L7 := Lib.hid (show Lst w7 y n w.heap.size (.slice (some ⟨g, 0, none⟩) n vc) from
              let q := L6.out.turn t7 (fun _ _ => rfl) (fun b hb => .inl hb); ⟨q.1, q.2⟩)
            have B7 := Lib.hid (Turn.ownB t7 B6.out YO2.out)
            have hcell7 := L7.out.cellAt hlt2
            clear h7 t7 hcell6
            have hdd : decide ((1 : Int) = 0) = false := rfl
            go_wp2_with fail
            refine (beat_any y s5 i _ H7.out (by rw [HN5.out]; exact hlt2) HI5.out).mono ?_
            rintro e w8 ⟨rfl, h8, t8⟩
            rw [HBT1.out, decide_eq_false (show ¬ i < i by omega)]
            rw [HN5.out] at t8
            have H8 := Lib.hid h8
            have L8 := Lib.hid (show Lst w8 y n w.heap.size (.slice (some ⟨g, 0, none⟩) n vc) from
              let q := L7.out.turn t8 (fun _ _ => rfl) (fun b hb => .inl hb); ⟨q.1, q.2⟩)
            have B8 := Lib.hid (Turn.ownB t8 B7.out YO2.out)
            clear h8 t8 hcell7
            go_wp2
            go_roundw
            case rel => exact ⟨i + 1, _, by go_num, by omega, H8.out, HI6.out, HBT3.out, HBT2.out, L8.out, B8.out⟩
            case measure => simp [intOf]; omega
          · have hne : ¬ ((i : Int) = c) := by omega
            have d1 : decide ((i : Int) = c) = false := by exact decide_eq_false (by omega)
            have d2 : decide ((c : Int) < i) = true := by exact decide_eq_true (by omega)
            rw [if_neg (show ¬ i < c by omega), if_neg (show ¬ i = c by omega)] at hcut
            have HCU := Lib.hid hcut
            clear hcut
            go_wp2_with fail
            refine (cause_any y s5 i _ HH5.out (by rw [HN5.out]; exact hlt2)).mono ?_
            rintro e w6 ⟨rfl, h6, t6⟩
            rw [HCU.out]
            rw [HN5.out] at t6
            have H6 := Lib.hid h6
            have L6 := Lib.hid (show Lst w6 y n w.heap.size (.slice (some ⟨g, 0, none⟩) n vc) from
              let q := HL5.out.turn t6 (fun _ _ => rfl) (fun b hb => .inl hb); ⟨q.1, q.2⟩)
            have B6 := Lib.hid (Turn.ownB t6 HB5.out YO2.out)
            have hcell6 := L6.out.cellAt hlt2
            clear h6 t6 hcell5
            go_wp2_with fail
            refine (stopped_any y s5 i _ H6.out (by rw [HN5.out]; exact hlt2)).mono ?_
            rintro e w7 ⟨rfl, h7, t7⟩
            rw [HCU.out]
            rw [HN5.out] at t7
            have H7 := Lib.hid h7
            have L7 := Lib.hid (show Lst w7 y n w.heap.size (.slice (some ⟨g, 0, none⟩) n vc) from
              let q := L6.out.turn t7 (fun _ _ => rfl) (fun b hb => .inl hb); ⟨q.1, q.2⟩)
            have B7 := Lib.hid (Turn.ownB t7 B6.out YO2.out)
            have hcell7 := L7.out.cellAt hlt2
            clear h7 t7 hcell6
            have hdd : decide ((3 : Int) = 0) = false := rfl
            go_wp2_with fail
            refine (beat_any y s5 i _ H7.out (by rw [HN5.out]; exact hlt2) HI5.out).mono ?_
            rintro e w8 ⟨rfl, h8, t8⟩
            rw [HBT1.out, decide_eq_false (show ¬ i < c by omega)]
            rw [HN5.out] at t8
            have H8 := Lib.hid h8
            have L8 := Lib.hid (show Lst w8 y n w.heap.size (.slice (some ⟨g, 0, none⟩) n vc) from
              let q := L7.out.turn t8 (fun _ _ => rfl) (fun b hb => .inl hb); ⟨q.1, q.2⟩)
            have B8 := Lib.hid (Turn.ownB t8 B7.out YO2.out)
            clear h8 t8 hcell7
            go_wp2
            go_roundw
            case rel => exact ⟨i + 1, _, by go_num, by omega, H8.out, HI6.out, HBT3.out, HBT2.out, L8.out, B8.out⟩
            case measure => simp [intOf]; omega
        · have ei : i = n := by omega
          subst ei
          have hcell5 := HL5.out.cellAt (i := c) hcd
          have hch := HC5.out.child HI5.out (a := c) (by rw [HN5.out]; exact hcd) (by rw [HN5.out]; omega)
          have HC1' := Lib.hid hch.1
          have HC2' := Lib.hid (HN5.out ▸ hch.2.1)
          have HC3' := Lib.hid (HN5.out ▸ hch.2.2)
          have HI6 := Lib.hid (HI5.out.child c (by rw [HN5.out]; exact hcd) 4)
          have HN6 := Lib.hid (show (child0 s5 c 4 3).length = i + 1 by rw [child0_length, HN5.out])
          clear hch
          go_wp2_with fail
          refine (child_any y s5 c 4 _ HH5.out (by rw [HN5.out]; exact hcd) HI5.out).mono ?_
          rw [HC1'.out]
          unfold ChildPost
          rw [HN5.out]
          rintro e w6 ⟨y', rfl, h6, t6, o6, hB6⟩
          rw [HC1'.out] at HI6
          have H6 := Lib.hid h6
          have B6 := Lib.hid (Turn.ownB t6 HB5.out YO2.out)
          have YO6 := Lib.hid (show ∀ b, y'.own (i + 1) b → w.heap.size ≤ b from fun b hb => by
            rcases o6 b (by rw [HN6.out]; exact hb) with h | h
            · exact YO2.out b h
            · exact Nat.le_trans HB5.out.size h)
          clear h6 t6 o6 hB6 hcell5
          simp only [if_true]
          go_wp2_with fail
          refine (stopped_any y' _ i _ H6.out (by rw [HN6.out]; omega)).mono ?_
          rintro e w7 ⟨rfl, h7, t7⟩
          rw [HC2'.out]
          rw [HN6.out] at t7
          have H7 := Lib.hid h7
          have B7 := Lib.hid (Turn.ownB t7 B6.out YO6.out)
          clear h7 t7
          have hd3 : decide ((3 : Int) = 0) = false := rfl
          go_wp2_with fail
          refine (cause_any y' _ i _ H7.out (by rw [HN6.out]; omega)).mono ?_
          rintro e w8 ⟨rfl, h8, t8⟩
          rw [HC2'.out]
          rw [HN6.out] at t8
          have H8 := Lib.hid h8
          have B8 := Lib.hid (Turn.ownB t8 B7.out YO6.out)
          clear h8 t8
          go_wp2_with fail
          refine (left_any y' _ i _ H8.out (by rw [HN6.out]; omega)).mono ?_
          rintro e w9 ⟨rfl, h9, t9⟩
          rw [HC2'.out]
          rw [HN6.out] at t9
          have H9 := Lib.hid h9
          have B9 := Lib.hid (Turn.ownB t9 B8.out YO6.out)
          clear h9 t9
          go_wp2_with fail
          refine (beat_any y' _ i _ H9.out (by rw [HN6.out]; omega) HI6.out).mono ?_
          rintro e w10 ⟨rfl, h10, t10⟩
          rw [HC3'.out]
          rw [HN6.out] at t10
          have B10 := Lib.hid (Turn.ownB t10 B9.out YO6.out)
          clear h10 t10
          go_wp2
          go_ret
          exact ⟨rfl, B10.out⟩
end Go.Proofs.Ytcfdpeafnpeddaa
