/- The end of a stop: its contract. -/
import Derived.Test.YtcfdpeafnpeddaaM
namespace Go.Proofs.Ytcfdpeafnpeddaa
set_option linter.unusedVariables false
set_option linter.unusedSimpArgs false
open Go.Conc Go.RowKit

theorem kidsOf_congr {st st' : List St} (hl : st'.length = st.length) (h : ∀ k, (ns st' k).par = (ns st k).par) (i : Nat) : kidsOf st' i = kidsOf st i := by
  unfold kidsOf
  rw [hl]
  congr 1
  funext k
  rw [h]
theorem kidsOf_nodup (st : List St) (i : Nat) : (kidsOf st i).Nodup := List.Pairwise.filter _ List.nodup_range
theorem HT.kid {w : World} {x : Pl} {l : Int} {st : List St} (h : HT w x l st) {i : Nat} (hi : i < st.length) {A : Option Addr} {m cap : Nat} (hK : x.K i = .slice A m cap) {t j : Nat} (hj : (kidsOf st i)[t]? = some j) :
    ∃ g, A = some ⟨g, 0, none⟩ ∧ w.cell? ⟨g, t, none⟩ = some (.pointer (some ⟨x.B j, 0, none⟩)) := by
  obtain ⟨A', cap', e, hv⟩ := kids_view (h.kids i hi)
  rw [hK] at e
  injection e with e1 e2 e3
  subst e1
  exact hv t (x.B j) (by rw [List.getElem?_map, hj]; rfl)
theorem HT.klen {w : World} {x : Pl} {l : Int} {st : List St} (h : HT w x l st) {i : Nat} (hi : i < st.length) : ∃ A cap, x.K i = .slice A (kidsOf st i).length cap := by
  obtain ⟨A', cap', e, hv⟩ := kids_view (h.kids i hi)
  exact ⟨A', cap', by rw [e, List.length_map]⟩
theorem kidS_wf {st : List St} (hw : Wf st) (i : Nat) (c : Int) (ks : List Nat) : Wf (kidS st i c ks) := by
  refine ⟨fun k hk => ?_, fun k hk h0 => ?_, ?_⟩
  · rw [kidS_par]; exact hw.par k (by rw [kidS_length] at hk; exact hk)
  · rw [kidS_par]; exact hw.zero k (by rw [kidS_length] at hk; exact hk) h0
  · rw [kidS_par]; exact hw.root
theorem box_turn {w w1 w' : World} {x : Pl} {n i : Nat} {o : Obj} (hi : i < n) (h : Turn (fun b => b = x.B i ∨ b = x.C i) (w.alloc o) w') : Turn (x.own n) w w' :=
  (Turn.of_below ((Below.refl w.heap.size w).alloc (Nat.le_refl _) o) _).trans (turn_own hi h)
set_option maxRecDepth 100000 in
set_option maxHeartbeats 3200000 in
theorem end_any (x : Pl) (l : Int) : ∀ (d : Nat) (st : List St) (i : Nat) (c : Int) (w : World), st.length - i ≤ d → st.length ≤ 256 → HT w x l st → Wf st → i < st.length → Cons st i → c ≠ 0 →
    Calls Try.prog 26 #[.pointer (some ⟨x.B i, 0, none⟩), .int .i64 c] w fun e w' => e = .returned (.tuple #[]) ∧ HT w' x l (endS st i c) ∧ Turn (x.own st.length) w w' := by
  intro d
  induction d with
  | zero => intro st i c w hd _ _ _ hi; omega
  | succ d ih =>
  intro st i c w hd hmax h hw hi hcons hc
  have IH := Lib.hid ih
  have b0 := (Below.refl w.heap.size w).alloc (Nat.le_refl _) (.cells #[.pointer (some ⟨x.B i, 0, none⟩)] 23)
  have B0 := Lib.hid b0
  have H1 := Lib.hid (h.below b0)
  have hlt := Lib.hid (h.lt)
  have bx := RowAt.new w 23 [.pointer (some ⟨x.B i, 0, none⟩)]
  have hlive := (h.below b0).live hi
  have HW := Lib.hid hw
  have HCs := Lib.hid hcons
  have hHid := Lib.hid h
  by_cases h0 : (ns st i).cause = 0
  · rw [decide_eq_true h0] at hlive
    have HL := Lib.hid hlive
    have H0 := Lib.hid h0
    have bx0 := bx.cell 0
    have hnd := ((h.below b0).node i hi).cell
    have hfr := ((h.below b0).node i hi).frozen
    have BX := Lib.hid bx
    have ne1 : x.B i ≠ w.heap.size := by have := hlt.out (x.B i) (.inr ⟨i, hi, .inl rfl⟩); omega
    have ne2 : x.C i ≠ w.heap.size := by have := hlt.out (x.C i) (.inr ⟨i, hi, .inr (.inl rfl)⟩); omega
    have hcu := Lib.hid ((h.below b0).chan i hi)
    clear b0 bx h hlive h0 hw hcons ih
    go_enter Try.func26, Try.ntmps26
    go_wp2_with fail
    refine HL.out.mono ?_
    rintro e w' ⟨rfl, rfl⟩
    go_wp2_with fail
    have R2 := (H1.out.node i hi).set 4 (.int .i64 c)
    refine (do_first (x.B i) (x.C i) ⟨w.heap.size, 0, none⟩ (Ne.symm ne1) (Ne.symm ne2) (chan_row (H1.out.chan i hi) (H1.out.node i hi)) (.pointer (some ⟨x.T, 0, none⟩)) (x.par (ns st i).par) (x.K i) (ns st i).left c 0 _ ?_ ?_ ?_).mono ?_
    · exact (World.cell?_setCell_other _ _ _ _ (fun e => ne1 (by have := congrArg Addr.block e; simpa using this))).trans (BX.out.cell 0)
    · refine R2.congr ?_
      simp [Pl.node, stopC, H0.out, done]
    · rw [Below.heap_setCell _ _ _ _ (chan_row (H1.out.chan i hi) (H1.out.node i hi))]
      have := H1.out.chan i hi
      rw [H0.out] at this
      exact this
    rintro e w3 ⟨rfl, r3, c3, t3⟩
    have t3' : Turn (fun b => b = x.B i ∨ b = x.C i) (w.alloc (.cells #[.pointer (some ⟨x.B i, 0, none⟩)] 23)) w3 :=
      (Turn.setCell (S := fun b => b = x.B i ∨ b = x.C i) (p := ⟨x.B i, 4, none⟩) (Turn.refl _ _) (.inl (.inl rfl)) (.int .i64 c)).trans t3
    have h3 : HT w3 x l (st.set i { ns st i with cause := c }) := H1.out.upd hi _ rfl t3' (r3.congr (by simp [Pl.node, stopC, done, hc])) (by rw [c3]; simp [chanO, hc])
    have hbx3 := (BX.out.turn t3' (by rintro (e | e); exact ne1 e.symm; exact ne2 e.symm)).cell 0
    have hnd3 := r3.cell
    obtain ⟨A, cap, hK⟩ := H1.out.klen hi
    rw [hK] at hnd3
    have HK := Lib.hid hK
    rw [← kidS_nil st i c hi H0.out] at h3
    have H3 := Lib.hid h3
    have T3 := Lib.hid (box_turn (w := w) (w1 := w) (n := st.length) hi t3')
    have hkl : (kidsOf st i).length ≤ 256 := by
      have := List.length_filter_le (fun j => (ns st j).par == (i : Int)) (List.range st.length)
      rw [List.length_range] at this
      unfold kidsOf
      omega
    clear hnd hfr r3 c3 t3 t3' h3 hK R2 bx0
    go_wp2
    go_loopw [23] (fun v wr => ∃ t : Nat, v = .int .i64 t ∧ t ≤ (kidsOf st i).length ∧ Hid (HT wr x l (kidS st i c ((kidsOf st i).take t))) ∧ Hid (Turn (x.own st.length) w wr)) (fun v _ => (kidsOf st i).length - (intOf v).toNat)
    case atStart => exact ⟨0, rfl, by omega, by rw [List.take_zero]; exact H3.out, T3.out⟩
    case round =>
      obtain ⟨t, rfl, ht, HR, HT'⟩ := hrel
      clear hnd3 hbx3
      by_cases hlt' : t < (kidsOf st i).length
      · obtain ⟨j, hj⟩ : ∃ j, (kidsOf st i)[t]? = some j := ⟨_, List.getElem?_eq_getElem hlt'⟩
        have hkc : kidsOf (kidS st i c ((kidsOf st i).take t)) i = kidsOf st i := kidsOf_congr (kidS_length _ _ _ _) (kidS_par _ _ _ _) i
        obtain ⟨g, rfl, hcell⟩ := HR.out.kid (by rw [kidS_length]; exact hi) HK.out (by rw [hkc]; exact hj)
        have hjm := (kidsOf_mem st i j).1 (List.mem_of_getElem? hj)
        have hsn := kidS_snoc HW.out i c ((kidsOf st i).take t) j hjm.2 (fun j' hj' => ⟨((kidsOf_mem st i j').1 (List.mem_of_mem_take hj')).2, by
          rintro rfl
          obtain ⟨q, hq, hqe⟩ := List.mem_take_iff_getElem.1 hj'
          have h2 : (kidsOf st i)[q]? = some j' := by rw [List.getElem?_eq_getElem (by omega), hqe]
          have := (List.getElem?_inj (by omega) (kidsOf_nodup st i)).1 (h2.trans hj.symm)
          omega⟩) hjm.1
        have hij : i < j := by have := HW.out.par j hjm.1; omega
        have htake : (kidsOf st i).take (t + 1) = (kidsOf st i).take t ++ [j] := by rw [List.take_add_one, hj]; rfl
        have S1 := Lib.hid hsn.1
        have S2 := Lib.hid hsn.2
        have HTk := Lib.hid htake
        clear hsn hkc htake
        go_wp2_with fail
        refine (IH.out (kidS st i c ((kidsOf st i).take t)) j 3 wr (by rw [kidS_length]; omega) (by rw [kidS_length]; exact hmax) HR.out (kidS_wf HW.out _ _ _) (by rw [kidS_length]; exact hjm.1) (S2.out HCs.out) (by omega)).mono ?_
        rintro e w4 ⟨rfl, h4, t4⟩
        rw [S1.out, ← HTk.out] at h4
        rw [kidS_length] at t4
        have H4 := Lib.hid h4
        have T4 := Lib.hid (HT'.out.trans t4)
        clear h4 t4 hcell
        go_wp2
        go_roundw
        case rel => exact ⟨t + 1, by go_num, by omega, H4.out, T4.out⟩
        case measure => simp [intOf]; omega
      · have hall := kidS_all HW.out i c (kidsOf st i) (kidsOf_mem st i)
        have e : (kidsOf st i).take t = kidsOf st i := List.take_of_length_le (by omega)
        rw [e, hall] at HR
        go_wp2
        go_end0
        exact ⟨rfl, HR.out, HT'.out⟩
  · rw [decide_eq_false h0] at hlive
    have HL := Lib.hid hlive
    have hdead := Lib.hid (endS_dead hcons h0 c)
    have bx0 := bx.cell 0
    clear bx hlive h0 hw hcons ih h b0
    go_enter Try.func26, Try.ntmps26
    go_wp2_with fail
    refine HL.out.mono ?_
    rintro e w' ⟨rfl, rfl⟩
    go_wp2
    refine bodyPost_ret (results_none rfl _ _ _) rfl ?_
    exact ⟨rfl, by rw [hdead.out]; exact H1.out, Turn.of_below B0.out _⟩
end Go.Proofs.Ytcfdpeafnpeddaa
