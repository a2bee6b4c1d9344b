/- The walk of the law of many stops. -/
import Derived.Test.YtcfdpeafnpeddaaShared
namespace Go.Proofs.Ytcfdpeafnpeddaa
set_option linter.unusedVariables false
set_option linter.unusedSimpArgs false
open Go.Conc Go.RowKit Go.MuLone

theorem cellsOf3 : Try.prog.cellsOf 3 = 1 := by kernel_rfl
theorem spentG_none (st : List St) (hall : ∀ k, (ns st k).left ≠ 0) : ∀ (m : Nat) (p s : Int), spentG st m p s = s := by
  intro m
  induction m with
  | zero => intro p s; rfl
  | succ m ih =>
    intro p s
    rw [spentG]
    split
    · rfl
    · rw [if_neg (hall _), ih]
theorem decG_root : ∀ (m : Nat) (p : Int) (st : List St), Wf st → 0 ≤ p → p < st.length → p < m → (ns (decG m p st) 0).left = (ns st 0).left - 1 := by
  intro m
  induction m with
  | zero => intro p st _ _ _ h; omega
  | succ m ih =>
    intro p st hw h0 hl hm
    rw [decG, if_neg (by omega)]
    obtain ⟨q, rfl⟩ : ∃ q : Nat, p = q := ⟨p.toNat, by omega⟩
    rw [show ((q : Int)).toNat = q from by omega]
    have hql : q < st.length := by omega
    have h1 := set_left_par st q ((ns st q).left - 1) hql
    by_cases hq : q = 0
    · subst hq
      rw [hw.root, decG_neg _ _ _ (by omega), ns_set _ _ _ _ hql, if_pos rfl]
    · have hz := hw.zero q hql (by omega)
      have hp := hw.par q hql
      rw [ih _ _ (wf_congr (by simp) (fun k => (h1 k).1) hw) hz (by rw [List.length_set]; omega) (by omega), ns_set _ _ _ _ hql, if_neg (by omega)]
/-- All stops are live and have three beats. -/
def Threes (st : List St) : Prop := ∀ k, k < st.length → (ns st k).left = 3 ∧ (ns st k).cause = 0
theorem Threes.child {st : List St} (h : Threes st) {i : Nat} (hi : i < st.length) (hl : st.length < 256) : childF st i 3 = (0, child0 st i 3 0) ∧ Threes (child0 st i 3 0) := by
  constructor
  · unfold childF childC
    rw [if_pos (by decide), if_neg (by omega), if_pos (h i hi).2]
  · intro k hk
    rw [child0_length] at hk
    rw [child0_ns]
    split
    · exact ⟨rfl, rfl⟩
    · exact h k (by omega)
theorem Threes.beat {st : List St} (h : Threes st) (hI : SInv st) {i : Nat} (hi : i < st.length) : (beatF st i).1 = true ∧ (ns (beatF st i).2 0).left = 2 := by
  have hall : ∀ k, k < st.length → (ns st k).left ≠ 0 := fun k hk => by rw [(h k hk).1]; decide
  have hs : spentG st (i + 1) i (-1) = -1 := by
    rcases spentG_is st (i + 1) i (-1) with e | ⟨r, q, h1, h2, h3, h4⟩
    · exact e
    · have : q = i := by omega
      subst this
      have := h3.le hI.wf
      exact absurd h4 (hall r (by omega))
  unfold beatF
  rw [if_pos (h i hi).2, hs, if_neg (by decide)]
  refine ⟨rfl, ?_⟩
  simp only
  rw [decG_root _ _ _ hI.wf (by omega) (by omega) (by omega), (h 0 hI.pos).1]
  decide
theorem beatF_length {st : List St} (hw : Wf st) {i : Nat} (hi : i < st.length) : (beatF st i).2.length = st.length := by
  unfold beatF
  split
  · split
    · exact endS_length _ _ _
    · exact (decG_keeps (i + 1) i st hw (by omega)).1
  · rfl
/-- The law's own list of the stops. -/
structure Lst (w : World) (x : Pl) (n base : Nat) (v : Value) : Prop where
  own : Own w base 23 1 ptrC v ((List.range n).map x.B)
  far : ∀ g, v.ownBlock = some g → ¬ x.own n g
theorem Lst.turn {w w' : World} {x x' : Pl} {n n' base : Nat} {v : Value} (h : Lst w x n base v) (ht : Turn (x.own n) w w') (hB : ∀ k, k < n → x'.B k = x.B k) (ho : ∀ b, x'.own n' b → x.own n b ∨ w.heap.size ≤ b) :
    Own w' base 23 1 ptrC v ((List.range n).map x'.B) ∧ ∀ g, v.ownBlock = some g → ¬ x'.own n' g := by
  have e : (List.range n).map x'.B = (List.range n).map x.B := by
    apply List.map_congr_left
    intro k hk
    exact hB k (List.mem_range.1 hk)
  refine ⟨by rw [e]; exact h.own.turn ht fun g hg => h.far g hg, fun g hg hx => ?_⟩
  rcases ho g hx with h1 | h1
  · exact h.far g hg h1
  · have := (h.own.base g hg).2
    omega
theorem Lst.cell {w : World} {x : Pl} {n base : Nat} {v : Value} (h : Lst w x n base v) : ∃ A cap, v = .slice A n cap ∧ ∀ i, i < n → ∃ g, A = some ⟨g, 0, none⟩ ∧ w.cell? ⟨g, i, none⟩ = some (.pointer (some ⟨x.B i, 0, none⟩)) := by
  obtain ⟨A, cap, e, hv⟩ := kids_view h.own
  refine ⟨A, cap, by rw [e]; simp, fun i hi => hv i (x.B i) ?_⟩
  rw [List.getElem?_map, List.getElem?_range hi]
  rfl
def sliceLen (v : Value) : Nat := match v with | .slice _ n _ => n | _ => 0
theorem many_append {w w4 w5 : World} {y : Pl} {st : List St} {n : Nat} {v v' : Value} (h : Own w4 w.heap.size 23 1 ptrC v ((List.range n).map y.B) ∧ ∀ g, v.ownBlock = some g → ¬ y.own (n + 1) g) (hh : HT w4 y 0 st)
    (hB : Below w.heap.size w w4) (hO : ∀ b, y.own st.length b → w.heap.size ≤ b) (hl : st.length = n + 1) (hown : w5.ownsRow w.heap.size 23 1 v' (n + 1) (((List.range n).map y.B).flatMap ptrC ++ [.pointer (some ⟨y.B n, 0, none⟩)]))
    (hg : (w4.alloc (.cells #[.pointer (some ⟨y.B n, 0, none⟩)] 23)).grownBy w5 v.ownBlock) (hob : v'.ownBlock = v.ownBlock ∨ v'.ownBlock = some (w4.heap.size + 1)) :
    Lst w5 y (n + 1) w.heap.size v' ∧ HT w5 y 0 st ∧ Below w.heap.size w w5 ∧ 256 - sliceLen v' = 256 - (n + 1) := by
  have t5 : Turn (fun b => v.ownBlock = some b) w4 w5 := (Turn.of_below ((Below.refl w4.heap.size w4).alloc (Nat.le_refl _) (.cells #[.pointer (some ⟨y.B n, 0, none⟩)] 23)) _).grown hg fun k hk => .inl hk
  have o5 : Own w5 w.heap.size 23 1 ptrC v' ((List.range (n + 1)).map y.B) := by
    rw [List.range_succ, List.map_append]
    exact Own.snoc (by rw [List.length_map, List.length_range]; exact hown)
  refine ⟨⟨o5, fun g hg' hx => ?_⟩, hh.turn t5 fun b hb hv => h.2 b hv (hl ▸ hb), hB.trans (t5.below hB.size fun i hi hv => by have := (h.1.base i hv).1; omega), ?_⟩
  · rcases hob with e | e
    · exact h.2 g (e ▸ hg') hx
    · rw [e] at hg'
      injection hg' with hg'
      have := hh.lt g (hl.symm ▸ hx)
      omega
  · obtain ⟨A, cap, e, -⟩ := kids_view o5
    rw [e]
    simp [sliceLen]
set_option maxRecDepth 100000 in
set_option maxHeartbeats 3200000 in
theorem many_walk (A : Option Addr) (m cap : Nat) (xs : List Int) (hm : xs.length = m) (hml : m ≤ maxLen) (w : World) (hR : SliceRd w A 1 cellI xs) :
    Calls Try.prog 6 #[.slice A m cap] w fun e w' => e = .returned (.bool true) ∧ Below w.heap.size w w' := by
  have HR := Lib.hid hR
  have hml' : m ≤ 9223372036854775807 := by unfold maxLen at hml; omega
  clear hR hml
  go_enter Try.func6, Try.ntmps6
  go_wp2_with fail
  refine (anchor_any _).mono ?_
  rintro e w0 ⟨rfl, bb0⟩
  have B0 := Lib.hid bb0
  clear bb0
  go_wp2_with fail
  refine (new_yes 3 w0 (by decide) (by decide)).mono ?_
  rintro e w1 ⟨x, rfl, h1, bb1, ho⟩
  have H1 := Lib.hid h1
  have B1 := Lib.hid (B0.out.trans (bb1.mono B0.out.size))
  have HO := Lib.hid (fun b hb => Nat.le_trans B0.out.size (ho b hb))
  clear h1 bb1 ho
  have L1 : Own (w1.alloc (.cells [Value.pointer (some ⟨x.B 0, 0, none⟩)].toArray 23)) w.heap.size 23 1 ptrC (.slice (some ⟨w1.heap.size, 0, none⟩) 1 1) [x.B 0] :=
    (RowAt.new w1 23 [.pointer (some ⟨x.B 0, 0, none⟩)]).own (Nat.le_trans B1.out.size (Nat.le_refl _)) (by rfl) (by unfold maxLen; omega)
  have LL := Lib.hid (show Lst (w1.alloc (.cells [Value.pointer (some ⟨x.B 0, 0, none⟩)].toArray 23)) x 1 w.heap.size (.slice (some ⟨w1.heap.size, 0, none⟩) 1 1) from ⟨L1, fun g hg hx => by
    simp [Value.ownBlock] at hg
    have := H1.out.lt g hx
    omega⟩)
  have H2 := Lib.hid (H1.out.below ((Below.refl w1.heap.size w1).alloc (Nat.le_refl _) (.cells [Value.pointer (some ⟨x.B 0, 0, none⟩)].toArray 23)))
  have B2 := Lib.hid (B1.out.alloc B1.out.size (.cells [Value.pointer (some ⟨x.B 0, 0, none⟩)].toArray 23))
  obtain ⟨p0, hp0⟩ : ∃ p, p = x.B 0 := ⟨_, rfl⟩
  have I1 := Lib.hid (one_inv 3 0 (by decide) (by decide))
  have T1 := Lib.hid (show Threes [⟨-1, 3, 0⟩] from fun k hk => by
    have : k = 0 := by simp at hk; exact hk
    subst this
    exact ⟨rfl, rfl⟩)
  clear L1 H1 B1
  go_wp2
  go_loopw [5] (fun v wr => ∃ (y : Pl) (st : List St), Hid (Lst wr y st.length w.heap.size v) ∧ st.length ≤ 256 ∧ Hid (HT wr y 0 st) ∧ Hid (SInv st) ∧ Hid (Threes st) ∧ y.B 0 = x.B 0 ∧ Hid (∀ b, y.own st.length b → w.heap.size ≤ b) ∧ Hid (Below w.heap.size w wr)) (fun v _ => 256 - sliceLen v)
  case atStart => exact ⟨x, [⟨-1, 3, 0⟩], LL.out, by simp, H2.out, I1.out, T1.out, rfl, HO.out, B2.out⟩
  case round =>
    obtain ⟨y, st, HL, hlen, HH, HI, HT3, hy0, YO, HB⟩ := hrel
    have hpos := HI.out.pos
    obtain ⟨n, hn⟩ : ∃ n, n = st.length := ⟨_, rfl⟩
    rw [← hn] at HL hlen hpos
    have YO' := YO.out
    rw [← hn] at YO'
    have YO2 := Lib.hid YO'
    have HN := Lib.hid hn
    clear hn YO' YO
    obtain ⟨vA, vc, rfl, hvc⟩ := HL.out.cell
    have hpz : (0 : Int) < n := by omega
    have HV := Lib.hid hvc
    have HY0 := Lib.hid hy0
    clear hvc hy0
    by_cases hlt : n < 256
    · have hcase : (¬ ((n : Int) - 1 < m)) ∨ ∃ a : Int, xs[n - 1]? = some a ∧ ((n : Int) - 1 < m) ∧ (a < 0 ∨ (0 ≤ a ∧ (n : Int) ≤ a) ∨ ∃ t : Nat, a = t ∧ t < n) := by
        by_cases h1 : (n : Int) - 1 < m
        · right
          obtain ⟨a, ha⟩ : ∃ a, xs[n - 1]? = some a := ⟨_, List.getElem?_eq_getElem (by omega)⟩
          refine ⟨a, ha, h1, ?_⟩
          by_cases h2 : a < 0
          · exact .inl h2
          · by_cases h3 : (n : Int) ≤ a
            · exact .inr (.inl ⟨by omega, h3⟩)
            · exact .inr (.inr ⟨a.toNat, by omega, by omega⟩)
        · exact .inl h1
      have hidx : (((n : Int) - 1).toNat) = n - 1 := by omega
      obtain ⟨i0, hi0, hz0, hz1, hz2⟩ := info23
      rcases hcase with h1 | ⟨a, ha, h1, h2 | ⟨h2, h3⟩ | ⟨t, rfl, h2⟩⟩
      · obtain ⟨g, rfl, hcell⟩ := HV.out 0 (by omega)
        have hch := HT3.out.child (i := 0) (by rw [← HN.out]; omega) (by rw [← HN.out]; exact hlt)
        have HC1 := Lib.hid hch.1
        have HC2 := Lib.hid hch.2
        have HI2 := Lib.hid (HI.out.child 0 (by rw [← HN.out]; omega) 3)
        clear hch
        go_wp2_with fail
        refine (child_any y st 0 3 _ HH.out (by rw [← HN.out]; omega) HI.out).mono ?_
        rw [HC1.out]
        unfold ChildPost
        rw [← HN.out]
        rintro e w4 ⟨y', rfl, h4, t4, o4, hB4⟩
        rw [HC1.out] at HI2
        have hL4 := HL.out.turn t4 hB4 o4
        rw [child0_length, ← HN.out] at hL4
        have HL4 := Lib.hid hL4
        have H4 := Lib.hid h4
        have B4 := Lib.hid (Turn.ownB t4 HB.out YO2.out)
        have YO4 := Lib.hid (show ∀ b, y'.own (child0 st 0 3 0).length b → w.heap.size ≤ b from fun b hb => by
          rcases o4 b hb with h | h
          · exact YO2.out b h
          · exact Nat.le_trans HB.out.size h)
        have E4 := Lib.hid ((hB4 0 (by omega)).trans HY0.out)
        clear h4 t4 o4 hB4 hL4
        simp only [if_true]
        have w4s := B4.out.size
        go_wp2_with (at_builtin; refine wpList_append_own_at _ rfl _ _ 32 rfl w.heap.size 23 i0 (.pointer none) 1 8 Try.underlying32 hi0 hz0 hz1 hz2 rfl (by decide) _ _ _ rfl (HL4.out.1.alloc _) ⟨w4.heap.size, 0, none⟩ 1 1 [.pointer (some ⟨y'.B n, 0, none⟩)] rfl rfl (cell_one_new _ _ _) ?c2 ?c3 ?c4 ?c5 ?_)
        case c2 => first | rfl | (intro u hu; simp at hu; subst hu; rfl)
        case c3 => unfold maxLen; omega
        case c4 => omega
        case c5 => omega
        intro v' w5 hown' hgrow _ hob
        have hn5 := many_append HL4.out H4.out B4.out YO4.out (by rw [child0_length, ← HN.out]) hown' hgrow hob
        have N5 := Lib.hid hn5
        clear hown' hgrow hob hn5 hcell
        go_wp2
        go_roundw
        case rel => exact ⟨y', child0 st 0 3 0, by rw [child0_length, ← HN.out]; exact N5.out.1, by rw [child0_length, ← HN.out]; omega, N5.out.2.1, HI2.out, HC2.out, E4.out, YO4.out, N5.out.2.2.1⟩
        case measure => have := N5.out.2.2.2; simp only [sliceLen] at this ⊢; omega
      · obtain ⟨wb, woff, rfl, hwb, hwc⟩ := (HR.out.below HB.out).at ha
        have c0 := hwc 0 (by omega)
        simp only [cellI, List.getElem?_cons_zero, Nat.add_zero, Nat.mul_one] at c0
        clear hwc
        obtain ⟨g, rfl, hcell⟩ := HV.out 0 (by omega)
        have hch := HT3.out.child (i := 0) (by rw [← HN.out]; omega) (by rw [← HN.out]; exact hlt)
        have HC1 := Lib.hid hch.1
        have HC2 := Lib.hid hch.2
        have HI2 := Lib.hid (HI.out.child 0 (by rw [← HN.out]; omega) 3)
        clear hch
        go_wp2_with fail
        refine (child_any y st 0 3 _ HH.out (by rw [← HN.out]; omega) HI.out).mono ?_
        rw [HC1.out]
        unfold ChildPost
        rw [← HN.out]
        rintro e w4 ⟨y', rfl, h4, t4, o4, hB4⟩
        rw [HC1.out] at HI2
        have hL4 := HL.out.turn t4 hB4 o4
        rw [child0_length, ← HN.out] at hL4
        have HL4 := Lib.hid hL4
        have H4 := Lib.hid h4
        have B4 := Lib.hid (Turn.ownB t4 HB.out YO2.out)
        have YO4 := Lib.hid (show ∀ b, y'.own (child0 st 0 3 0).length b → w.heap.size ≤ b from fun b hb => by
          rcases o4 b hb with h | h
          · exact YO2.out b h
          · exact Nat.le_trans HB.out.size h)
        have E4 := Lib.hid ((hB4 0 (by omega)).trans HY0.out)
        clear h4 t4 o4 hB4 hL4
        simp only [if_true]
        have w4s := B4.out.size
        go_wp2_with (at_builtin; refine wpList_append_own_at _ rfl _ _ 32 rfl w.heap.size 23 i0 (.pointer none) 1 8 Try.underlying32 hi0 hz0 hz1 hz2 rfl (by decide) _ _ _ rfl (HL4.out.1.alloc _) ⟨w4.heap.size, 0, none⟩ 1 1 [.pointer (some ⟨y'.B n, 0, none⟩)] rfl rfl (cell_one_new _ _ _) ?c2 ?c3 ?c4 ?c5 ?_)
        case c2 => first | rfl | (intro u hu; simp at hu; subst hu; rfl)
        case c3 => unfold maxLen; omega
        case c4 => omega
        case c5 => omega
        intro v' w5 hown' hgrow _ hob
        have hn5 := many_append HL4.out H4.out B4.out YO4.out (by rw [child0_length, ← HN.out]) hown' hgrow hob
        have N5 := Lib.hid hn5
        clear hown' hgrow hob hn5 hcell
        go_wp2
        go_roundw
        case rel => exact ⟨y', child0 st 0 3 0, by rw [child0_length, ← HN.out]; exact N5.out.1, by rw [child0_length, ← HN.out]; omega, N5.out.2.1, HI2.out, HC2.out, E4.out, YO4.out, N5.out.2.2.1⟩
        case measure => have := N5.out.2.2.2; simp only [sliceLen] at this ⊢; omega
      · obtain ⟨wb, woff, rfl, hwb, hwc⟩ := (HR.out.below HB.out).at ha
        have c0 := hwc 0 (by omega)
        simp only [cellI, List.getElem?_cons_zero, Nat.add_zero, Nat.mul_one] at c0
        clear hwc
        obtain ⟨g, rfl, hcell⟩ := HV.out 0 (by omega)
        have hch := HT3.out.child (i := 0) (by rw [← HN.out]; omega) (by rw [← HN.out]; exact hlt)
        have HC1 := Lib.hid hch.1
        have HC2 := Lib.hid hch.2
        have HI2 := Lib.hid (HI.out.child 0 (by rw [← HN.out]; omega) 3)
        clear hch
        go_wp2_with fail
        refine (child_any y st 0 3 _ HH.out (by rw [← HN.out]; omega) HI.out).mono ?_
        rw [HC1.out]
        unfold ChildPost
        rw [← HN.out]
        rintro e w4 ⟨y', rfl, h4, t4, o4, hB4⟩
        rw [HC1.out] at HI2
        have hL4 := HL.out.turn t4 hB4 o4
        rw [child0_length, ← HN.out] at hL4
        have HL4 := Lib.hid hL4
        have H4 := Lib.hid h4
        have B4 := Lib.hid (Turn.ownB t4 HB.out YO2.out)
        have YO4 := Lib.hid (show ∀ b, y'.own (child0 st 0 3 0).length b → w.heap.size ≤ b from fun b hb => by
          rcases o4 b hb with h | h
          · exact YO2.out b h
          · exact Nat.le_trans HB.out.size h)
        have E4 := Lib.hid ((hB4 0 (by omega)).trans HY0.out)
        clear h4 t4 o4 hB4 hL4
        simp only [if_true]
        have w4s := B4.out.size
        go_wp2_with (at_builtin; refine wpList_append_own_at _ rfl _ _ 32 rfl w.heap.size 23 i0 (.pointer none) 1 8 Try.underlying32 hi0 hz0 hz1 hz2 rfl (by decide) _ _ _ rfl (HL4.out.1.alloc _) ⟨w4.heap.size, 0, none⟩ 1 1 [.pointer (some ⟨y'.B n, 0, none⟩)] rfl rfl (cell_one_new _ _ _) ?c2 ?c3 ?c4 ?c5 ?_)
        case c2 => first | rfl | (intro u hu; simp at hu; subst hu; rfl)
        case c3 => unfold maxLen; omega
        case c4 => omega
        case c5 => omega
        intro v' w5 hown' hgrow _ hob
        have hn5 := many_append HL4.out H4.out B4.out YO4.out (by rw [child0_length, ← HN.out]) hown' hgrow hob
        have N5 := Lib.hid hn5
        clear hown' hgrow hob hn5 hcell
        go_wp2
        go_roundw
        case rel => exact ⟨y', child0 st 0 3 0, by rw [child0_length, ← HN.out]; exact N5.out.1, by rw [child0_length, ← HN.out]; omega, N5.out.2.1, HI2.out, HC2.out, E4.out, YO4.out, N5.out.2.2.1⟩
        case measure => have := N5.out.2.2.2; simp only [sliceLen] at this ⊢; omega
      · obtain ⟨wb, woff, rfl, hwb, hwc⟩ := (HR.out.below HB.out).at ha
        have c0 := hwc 0 (by omega)
        simp only [cellI, List.getElem?_cons_zero, Nat.add_zero, Nat.mul_one] at c0
        clear hwc
        obtain ⟨g, rfl, hcell⟩ := HV.out t (h2)
        have hch := HT3.out.child (i := t) (by rw [← HN.out]; exact h2) (by rw [← HN.out]; exact hlt)
        have HC1 := Lib.hid hch.1
        have HC2 := Lib.hid hch.2
        have HI2 := Lib.hid (HI.out.child t (by rw [← HN.out]; exact h2) 3)
        clear hch
        go_wp2_with fail
        refine (child_any y st t 3 _ HH.out (by rw [← HN.out]; exact h2) HI.out).mono ?_
        rw [HC1.out]
        unfold ChildPost
        rw [← HN.out]
        rintro e w4 ⟨y', rfl, h4, t4, o4, hB4⟩
        rw [HC1.out] at HI2
        have hL4 := HL.out.turn t4 hB4 o4
        rw [child0_length, ← HN.out] at hL4
        have HL4 := Lib.hid hL4
        have H4 := Lib.hid h4
        have B4 := Lib.hid (Turn.ownB t4 HB.out YO2.out)
        have YO4 := Lib.hid (show ∀ b, y'.own (child0 st t 3 0).length b → w.heap.size ≤ b from fun b hb => by
          rcases o4 b hb with h | h
          · exact YO2.out b h
          · exact Nat.le_trans HB.out.size h)
        have E4 := Lib.hid ((hB4 0 (by omega)).trans HY0.out)
        clear h4 t4 o4 hB4 hL4
        simp only [if_true]
        have w4s := B4.out.size
        go_wp2_with (at_builtin; refine wpList_append_own_at _ rfl _ _ 32 rfl w.heap.size 23 i0 (.pointer none) 1 8 Try.underlying32 hi0 hz0 hz1 hz2 rfl (by decide) _ _ _ rfl (HL4.out.1.alloc _) ⟨w4.heap.size, 0, none⟩ 1 1 [.pointer (some ⟨y'.B n, 0, none⟩)] rfl rfl (cell_one_new _ _ _) ?c2 ?c3 ?c4 ?c5 ?_)
        case c2 => first | rfl | (intro u hu; simp at hu; subst hu; rfl)
        case c3 => unfold maxLen; omega
        case c4 => omega
        case c5 => omega
        intro v' w5 hown' hgrow _ hob
        have hn5 := many_append HL4.out H4.out B4.out YO4.out (by rw [child0_length, ← HN.out]) hown' hgrow hob
        have N5 := Lib.hid hn5
        clear hown' hgrow hob hn5 hcell
        go_wp2
        go_roundw
        case rel => exact ⟨y', child0 st t 3 0, by rw [child0_length, ← HN.out]; exact N5.out.1, by rw [child0_length, ← HN.out]; omega, N5.out.2.1, HI2.out, HC2.out, E4.out, YO4.out, N5.out.2.2.1⟩
        case measure => have := N5.out.2.2.2; simp only [sliceLen] at this ⊢; omega
    · have e : n = 256 := by omega
      subst e
      obtain ⟨g, rfl, hcell⟩ := HV.out 255 (by omega)
      have hF : childF st 255 3 = (11, st) := by
        unfold childF
        rw [if_pos (by decide), if_pos (by rw [← HN.out]; decide)]
      have HF := Lib.hid hF
      clear hF
      go_wp2_with fail
      refine (child_any y st 255 3 _ HH.out (by rw [← HN.out]; omega) HI.out).mono ?_
      rw [HF.out]
      unfold ChildPost
      rintro e w4 ⟨y', rfl, h4, t4, o4, hB4⟩
      rw [← HN.out] at t4 o4 hB4
      have l4 := HL.out.turn t4 hB4 o4
      have L4 := Lib.hid l4
      have H4 := Lib.hid h4
      have B4 := Lib.hid (Turn.ownB t4 HB.out YO2.out)
      have O4 := Lib.hid (show ∀ b, y'.own 256 b → w.heap.size ≤ b from fun b hb => by
        rcases o4 b hb with h | h
        · exact YO2.out b h
        · exact Nat.le_trans HB.out.size h)
      have E4 := Lib.hid ((hB4 0 (by omega)).trans HY0.out)
      clear h4 t4 o4 hB4 l4
      have HF2 := Lib.hid (child_bad st 0 (-1) (by decide))
      have HBt := Lib.hid (HT3.out.beat HI.out (i := 255) (by rw [← HN.out]; omega))
      simp only [show ¬ ((11 : Int) = 0) by decide, if_false]
      go_wp2_with fail
      rw [← E4.out]
      refine (child_any y' st 0 (-1) _ H4.out (by rw [← HN.out]; omega) HI.out).mono ?_
      rw [HF2.out]
      unfold ChildPost
      rintro e w6 ⟨z, rfl, h6, t6, o6, hB6⟩
      rw [← HN.out] at t6 o6 hB6
      have L6 := Lib.hid (Lst.turn (w := w4) (x := y') (n := 256) ⟨L4.out.1, L4.out.2⟩ t6 hB6 o6)
      have H6 := Lib.hid h6
      have B6 := Lib.hid (Turn.ownB t6 B4.out O4.out)
      have O6 := Lib.hid (show ∀ b, z.own 256 b → w.heap.size ≤ b from fun b hb => by
        rcases o6 b hb with h | h
        · exact O4.out b h
        · exact Nat.le_trans B4.out.size h)
      have E6 := Lib.hid (hB6 0 (by omega))
      obtain ⟨A6, c6, e6, hc6⟩ := Lst.cell (w := w6) (x := z) (n := 256) ⟨L6.out.1, L6.out.2⟩
      injection e6 with e61 e62 e63
      obtain ⟨g6, e64, hcell6⟩ := hc6 255 (by omega)
      rw [e64] at e61
      injection e61 with e61
      injection e61 with e61
      subst e61
      clear h6 t6 o6 hB6 hc6 e62 e63 e64
      simp only [show ¬ ((10 : Int) = 0) by decide, if_false]
      go_wp2_with fail
      refine (beat_any z st 255 _ H6.out (by rw [← HN.out]; omega) HI.out).mono ?_
      rintro e w7 ⟨rfl, h7, t7⟩
      rw [HBt.out.1]
      rw [← HN.out] at t7
      have H7 := Lib.hid h7
      have B7 := Lib.hid (Turn.ownB t7 B6.out O6.out)
      have O7 := Lib.hid ((beatF_length HI.out.wf (i := 255) (by rw [← HN.out]; omega)).trans HN.out.symm)
      clear h7 t7
      go_wp2_with fail
      rw [← E6.out]
      refine (left_any z _ 0 _ H7.out (by rw [O7.out]; omega)).mono ?_
      rintro e w8 ⟨rfl, h8, t8⟩
      rw [HBt.out.2]
      rw [O7.out] at t8
      have B8 := Lib.hid (Turn.ownB t8 B7.out O6.out)
      clear h8 t8
      go_wp2
      go_ret
      exact ⟨rfl, B8.out⟩
end Go.Proofs.Ytcfdpeafnpeddaa
