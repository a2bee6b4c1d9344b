/- A stop's child: its contract. -/
import Derived.Test.YtcfdpeafnpeddaaGr
namespace Go.Proofs.Ytcfdpeafnpeddaa
set_option linter.unusedVariables false
set_option linter.unusedSimpArgs false
open Go.Conc Go.RowKit Go.MuLone

def ChildPost (x : Pl) (w : World) (st : List St) (q : Int × List St) (e : Ending) (w' : World) : Prop :=
  ∃ x' : Pl, e = .returned (.tuple #[if q.1 = 0 then .pointer (some ⟨x'.B st.length, 0, none⟩) else .pointer none, .int .i64 q.1]) ∧ HT w' x' 0 q.2 ∧ Turn (x.own st.length) w w' ∧
    (∀ b, x'.own q.2.length b → x.own st.length b ∨ w.heap.size ≤ b) ∧ (∀ k, k < st.length → x'.B k = x.B k)
theorem own_T {w : World} {x : Pl} {l : Int} {st : List St} (h : HT w x l st) {i : Nat} (hi : i < st.length) (k : Nat) (hk : (x.K i).ownBlock = some k) (e : k = x.T) : False := by
  subst e
  exact absurd (own_row (h.kids i hi) hk h.tree) (by decide)
theorem info23 : ∃ i, Try.prog.info? 23 = some i ∧ i.zero = some (.pointer none) ∧ i.size = 1 ∧ i.bytes = 8 := by
  have h : (Try.prog.info? 23).map (fun i => (i.zero, i.size, i.bytes)) = some (some (.pointer none), 1, 8) := by kernel_rfl
  obtain ⟨i, hi, hb⟩ := Option.map_eq_some_iff.1 h
  injection hb with h1 h2
  injection h2 with h2 h3
  exact ⟨i, hi, h1, h2, h3⟩
set_option maxRecDepth 100000 in
set_option maxHeartbeats 3200000 in
theorem child_any (x : Pl) (st : List St) (i : Nat) (m : Int) (w : World) (h : HT w x 0 st) (hi : i < st.length) (hI : SInv st) :
    Calls Try.prog 17 #[.pointer (some ⟨x.B i, 0, none⟩), .int .i64 m] w (ChildPost x w st (childF st i m)) := by
  have HH := Lib.hid h
  have hn := (h.node i hi).cell
  have hn1 := ((h.lock 1).node i hi).cell
  have hf1 := ((h.lock 1).node i hi).frozen
  have ht1 := (h.lock 1).tree.cell
  have htf := (h.lock 1).tree.frozen
  have HI := Lib.hid hI
  have hr := right_any m
  have hlen := hI.le
  by_cases hm : 0 ≤ m ∧ m ≤ 1099511627776
  · rw [decide_eq_true hm.1, decide_eq_true hm.2] at hr
    have HR := Lib.hid hr
    by_cases hfull : 256 ≤ st.length
    · have e : childF st i m = (11, st) := by unfold childF; rw [if_pos hm, if_pos hfull]
      rw [e]
      clear hr e hI h hm
      go_enter_defers Try.func17, Try.ntmps17
      go_wp2_with fail
      refine (HR.out _).mono ?_
      rintro e w' ⟨rfl, rfl⟩
      go_wp2_with (go_at_call 23; refine (lock_free muLib ⟨x.T, 0, none⟩ _ (HH.out.tree.cell 0) (HH.out.tree.frozen 0)).mono ?_; rintro e w' ⟨rfl, rfl⟩)
      refine leaves_cons (f := 24) (args := #[.pointer (some ⟨x.T, 0, none⟩)]) (by simp) (by simp [go_sem]) ?_
      refine (unlock_deferred muLib ⟨x.T, 0, none⟩ .returning _ (ht1 0) ((HH.out.lock 1).tree.frozen 0)).mono ?_
      rintro e u' w'' ⟨rfl, rfl, rfl⟩
      exact ⟨_, results_tmp2 rfl _ _ _, x, rfl, (HH.out.lock 1).lock 0, (turn_lock _).trans (turn_lock _), fun b hb => .inl hb, fun _ _ => rfl⟩
    · have e : childF st i m = (0, child0 st i m (childC st i)) := by unfold childF; rw [if_pos hm, if_neg hfull]
      rw [e]
      have hmk := mkc
      clear hr e hI h
      have W1 := Lib.hid (HH.out.lock 1)
      have WT := Lib.hid (turn_lock (x := x) (n := st.length) (w := w) (.int .i32 1))
      go_enter_defers Try.func17, Try.ntmps17
      go_wp2_with fail
      refine (HR.out _).mono ?_
      rintro e w' ⟨rfl, rfl⟩
      go_wp2_with (go_at_call 23; refine (lock_free muLib ⟨x.T, 0, none⟩ _ (HH.out.tree.cell 0) (HH.out.tree.frozen 0)).mono ?_; rintro e w' ⟨rfl, rfl⟩)
      have treeV := (W1.out.tree.set 2 (.int .i64 ((st.length : Int) + 1)))
      have tV : Turn (fun b => b = x.T) (w'.setCell ⟨x.T, 0, none⟩ (.int .i32 1)) ((w'.setCell ⟨x.T, 0, none⟩ (.int .i32 1)).setCell ⟨x.T, 2, none⟩ (.int .i64 ((st.length : Int) + 1))) := Turn.setCell (S := fun b => b = x.T) (p := ⟨x.T, 2, none⟩) (Turn.refl _ _) (.inl rfl) _
      have nodeV := (W1.out.node i hi).turn tV ((W1.out.node i hi).ne W1.out.tree (by decide))
      have kidsV : Own _ 0 23 1 ptrC (x.K i) ((kidsOf st i).map x.B) := (W1.out.kids i hi).turn tV (fun k hk e => own_T W1.out hi k hk e)
      have szV : ((w'.setCell ⟨x.T, 0, none⟩ (.int .i32 1)).setCell ⟨x.T, 2, none⟩ (.int .i64 ((st.length : Int) + 1))).heap.size = w'.heap.size := by simp [World.setCell]
      have TreeV := Lib.hid treeV
      have TV := Lib.hid tV
      have NodeV := Lib.hid nodeV
      have KidsV := Lib.hid kidsV
      have SzV := Lib.hid szV
      clear treeV tV nodeV kidsV szV hn hn1 hf1 ht1 htf
      generalize (w'.setCell ⟨x.T, 0, none⟩ (.int .i32 1)).setCell ⟨x.T, 2, none⟩ (.int .i64 ((st.length : Int) + 1)) = V at TreeV TV NodeV KidsV SzV ⊢
      have hcl := NodeV.out.cell
      have hlb := NodeV.out.lt
      go_region
      have r3 := RowAt.new' (V.alloc (.chan 0 #[] false 0 0 false)) (V.heap.size + 1) 67 (stopC (.pointer (some ⟨x.T, 0, none⟩)) (.pointer (some ⟨x.B i, 0, none⟩)) (.slice none 0 0) m 0 0 0 0 V.heap.size) (by simp)
      have c3 : ((V.alloc (.chan 0 #[] false 0 0 false)).alloc (.cells (stopC (.pointer (some ⟨x.T, 0, none⟩)) (.pointer (some ⟨x.B i, 0, none⟩)) (.slice none 0 0) m 0 0 0 0 V.heap.size).toArray 67)).heap[V.heap.size]? = some (.chan 0 #[] false 0 0 false) := by
        rw [Below.heap_alloc _ _ _ (by simp)]
        exact heap_alloc_new V _
      have bV := (((Below.refl V.heap.size V).alloc (Nat.le_refl _) (.chan 0 #[] false 0 0 false)).alloc (by simp) (.cells (stopC (.pointer (some ⟨x.T, 0, none⟩)) (.pointer (some ⟨x.B i, 0, none⟩)) (.slice none 0 0) m 0 0 0 0 V.heap.size).toArray 67)).drew
      have R3 := Lib.hid r3.drew
      have C3 := Lib.hid (show (((V.alloc (.chan 0 #[] false 0 0 false)).alloc (.cells (stopC (.pointer (some ⟨x.T, 0, none⟩)) (.pointer (some ⟨x.B i, 0, none⟩)) (.slice none 0 0) m 0 0 0 0 V.heap.size).toArray 67)).drew).heap[V.heap.size]? = _ from c3)
      have BV := Lib.hid bV
      have Nd2 := Lib.hid (NodeV.out.below bV)
      have Kd2 := Lib.hid (KidsV.out.below bV)
      clear r3 c3 bV hcl hlb
      generalize ((V.alloc (.chan 0 #[] false 0 0 false)).alloc (.cells (stopC (.pointer (some ⟨x.T, 0, none⟩)) (.pointer (some ⟨x.B i, 0, none⟩)) (.slice none 0 0) m 0 0 0 0 V.heap.size).toArray 67)).drew = V2 at R3 C3 BV Nd2 Kd2 ⊢
      have hcl := Nd2.out.cell
      have hfl := Nd2.out.frozen
      have hlb := Nd2.out.lt
      obtain ⟨i0, hi0, hz0, hz1, hz2⟩ := info23
      have hkl : (kidsOf st i).length ≤ 256 := by
        have := List.length_filter_le (fun j => (ns st j).par == (i : Int)) (List.range st.length)
        rw [List.length_range] at this
        unfold kidsOf
        omega
      go_wp2_with (at_builtin; refine wpList_append_own_at _ rfl _ _ 32 rfl 0 23 i0 (.pointer none) 1 8 Try.underlying32 hi0 hz0 hz1 hz2 rfl (by decide) _ _ _ rfl (Kd2.out.alloc _) ⟨V2.heap.size, 0, none⟩ 1 1 [.pointer (some ⟨V.heap.size + 1, 0, none⟩)] rfl rfl (cell_one_new _ _ _) ?c2 ?c3 ?c4 (Nat.zero_le _) ?_)
      case c2 => intro u hu; simp at hu; subst hu; rfl
      case c3 => rw [List.length_map]; unfold maxLen; omega
      case c4 => rw [List.length_map]; omega
      intro v' w1 hown' hgrow _ hob
      have own1 : Own w1 0 23 1 ptrC v' ((kidsOf st i).map x.B ++ [V.heap.size + 1]) := Own.snoc (by rw [List.length_map]; exact hown')
      obtain ⟨vA, vc, hv, -⟩ := kids_view own1
      rw [List.length_append, List.length_map, List.length_cons, List.length_nil] at hv
      subst hv
      have tB : Turn (fun b => (x.K i).ownBlock = some b) V (V2.alloc (.cells #[.pointer (some ⟨V.heap.size + 1, 0, none⟩)] 23)) := Turn.of_below (BV.out.trans ((Below.refl V2.heap.size V2).alloc (Nat.le_refl _) _ |>.mono BV.out.size)) _
      have t9 : Turn (fun b => (x.K i).ownBlock = some b) V w1 := tB.grown hgrow fun k hk => .inl hk
      have t9' : Turn (fun b => (x.K i).ownBlock = some b) V2 w1 := (Turn.of_below ((Below.refl V2.heap.size V2).alloc (Nat.le_refl _) (.cells #[.pointer (some ⟨V.heap.size + 1, 0, none⟩)] 23)) _).grown hgrow fun k hk => .inl hk
      have nbk : ∀ {b : Nat} {T : TypeId} {cs : List Value}, RowAt V2 b T cs → T ≠ 23 → ¬ (x.K i).ownBlock = some b := fun hr hT hk => hT (own_row Kd2.out hk hr)
      have n1 := Nd2.out.turn t9' (nbk Nd2.out (by decide))
      have tr1 := (TreeV.out.below BV.out).turn t9' (nbk (TreeV.out.below BV.out) (by decide))
      have s1 := R3.out.turn t9' (nbk R3.out (by decide))
      have ch1 : w1.heap[V.heap.size]? = some (.chan 0 #[] false 0 0 false) := by
        rw [t9'.block _ (Array.getElem?_eq_some_iff.1 C3.out).1 (fun hk => own_chan (cu := 0) Kd2.out hk C3.out)]
        exact C3.out
      -- the store of the kids
      have n2 := n1.set 2 (Value.slice vA ((kidsOf st i).length + (0 + 1)) vc)
      have tS : Turn (fun b => b = x.B i) w1 (w1.setCell ⟨x.B i, 2, none⟩ (Value.slice vA ((kidsOf st i).length + (0 + 1)) vc)) := Turn.setCell (S := fun b => b = x.B i) (p := ⟨x.B i, 2, none⟩) (Turn.refl _ _) (.inl rfl) _
      have neT : x.T ≠ x.B i := tr1.ne n1 (by decide)
      have neN : V.heap.size + 1 ≠ x.B i := by have := NodeV.out.lt; omega
      have neC : V.heap.size ≠ x.B i := by have := NodeV.out.lt; omega
      have vB : ∀ g, (Value.slice vA ((kidsOf st i).length + (0 + 1)) vc).ownBlock = some g → g ≠ x.B i := by
        intro g hg e
        exact absurd (own_row own1 hg (by rw [e]; exact n1)) (by decide)
      have ttot : Turn (fun b => b = x.T ∨ b = x.B i ∨ (x.K i).ownBlock = some b) (w'.setCell ⟨x.T, 0, none⟩ (.int .i32 1)) (w1.setCell ⟨x.B i, 2, none⟩ (Value.slice vA ((kidsOf st i).length + (0 + 1)) vc)) :=
        (TV.out.mono fun _ _ h => .inl h).trans ((t9.mono fun _ _ h => .inr (.inr h)).trans (tS.mono fun _ _ h => .inr (.inl h)))
      have szL : (w'.setCell ⟨x.T, 0, none⟩ (.int .i32 1)).heap.size = w'.heap.size := by simp [World.setCell]
      have obF : ∀ g, (Value.slice vA ((kidsOf st i).length + (0 + 1)) vc).ownBlock = some g → (x.K i).ownBlock = some g ∨ w'.heap.size ≤ g := by
        intro g hg
        rcases hob with e | e
        · exact .inl (e ▸ hg)
        · refine .inr ?_
          rw [e] at hg
          injection hg with hg
          have := BV.out.size
          have := SzV.out
          omega
      have hG := W1.out.grow HI.out.wf hi (m := m) (nb := V.heap.size + 1) (nc := V.heap.size) ttot (tr1.turn tS neT) (n2.congr (by rfl)) (own1.turn tS vB) (fun g hg => by rw [szL]; exact obF g hg) (s1.turn tS neN)
        (by rw [tS.block _ (Array.getElem?_eq_some_iff.1 ch1).1 neC]; exact ch1) (by rw [szL, ← SzV.out]; omega) (by rw [szL, ← SzV.out]; omega)
      have HG := Lib.hid hG
      have hOwn := Lib.hid (grow_own (x := x) (n := st.length) (i := i) (nb := V.heap.size + 1) (nc := V.heap.size) (v := (Value.slice vA ((kidsOf st i).length + (0 + 1)) vc)) (N := w'.heap.size) hi obF (by rw [← SzV.out]; omega) (by rw [← SzV.out]; exact Nat.le_refl _))
      have tOwn : Turn (x.own st.length) w' (w1.setCell ⟨x.B i, 2, none⟩ (Value.slice vA ((kidsOf st i).length + (0 + 1)) vc)) := WT.out.trans (ttot.mono fun b _ hb => by
        rcases hb with h | h | h
        · exact .inl h
        · exact .inr ⟨i, hi, .inl h⟩
        · exact .inr ⟨i, hi, .inr (.inr h)⟩)
      have TOwn := Lib.hid tOwn
      have hcl1 := n1.cell
      have hfl1 := n1.frozen
      clear own1 tB t9 t9' nbk n1 tr1 s1 ch1 n2 tS neT neN neC vB ttot szL hG tOwn hown' hgrow hob hcl hfl hlb hi0 hz0 hz1 hz2
      have eB : (x.grow st.length i (V.heap.size + 1) V.heap.size (Value.slice vA ((kidsOf st i).length + (0 + 1)) vc)).B i = x.B i := by simp only [Pl.grow]; rw [if_neg (by omega)]
      have eBn : (x.grow st.length i (V.heap.size + 1) V.heap.size (Value.slice vA ((kidsOf st i).length + (0 + 1)) vc)).B st.length = V.heap.size + 1 := by simp [Pl.grow]
      have eC : (ns (child0 st i m 0) i) = ns st i := by rw [child0_ns, if_neg (by omega)]
      have hL := HG.out.live (i := i) (by rw [child0_length]; omega)
      rw [eB, eC] at hL
      have HB : ∀ k, k < st.length → (x.grow st.length i (V.heap.size + 1) V.heap.size (Value.slice vA ((kidsOf st i).length + (0 + 1)) vc)).B k = x.B k := fun k hk => by simp only [Pl.grow]; rw [if_neg (by omega)]
      have eT : (x.grow st.length i (V.heap.size + 1) V.heap.size (Value.slice vA ((kidsOf st i).length + (0 + 1)) vc)).T = x.T := rfl
      generalize x.grow st.length i (V.heap.size + 1) V.heap.size (Value.slice vA ((kidsOf st i).length + (0 + 1)) vc) = x' at HG hOwn eB eBn HB eT
      have ET := Lib.hid eT
      clear eT
      have HBB := Lib.hid HB
      have EBN := Lib.hid eBn
      have HL := Lib.hid hL
      clear HB eBn eB eC hL
      go_wp2_with fail
      refine HL.out.mono ?_
      rintro e w2 ⟨rfl, rfl⟩
      by_cases h0 : (ns st i).cause = 0
      · rw [decide_eq_true h0]
        have eC : childC st i = 0 := by unfold childC; rw [if_pos h0]
        go_wp2
        have trE := HG.out.tree
        rw [ET.out] at trE
        have hfin := HG.out.lock 0
        rw [ET.out] at hfin
        refine leaves_cons (f := 24) (args := #[.pointer (some ⟨x.T, 0, none⟩)]) (by simp) (by simp [go_sem]) ?_
        refine (unlock_deferred muLib ⟨x.T, 0, none⟩ .returning _ (trE.cell 0) (trE.frozen 0)).mono ?_
        rintro e u' w'' ⟨rfl, rfl, rfl⟩
        exact ⟨_, results_tmp2 rfl _ _ _, x', by rw [EBN.out]; rfl, by rw [eC]; exact hfin, TOwn.out.trans (turn_lock _), fun b hb => hOwn.out b (by rw [child0_length] at hb; exact hb), HBB.out⟩
      · rw [decide_eq_false h0]
        have eC : childC st i = 3 := by unfold childC; rw [if_neg h0]
        have hE := end_any x' 1 _ (child0 st i m 0) st.length 3 _ (Nat.le_refl _) (by rw [child0_length]; omega) HG.out (child0_wf HI.out.wf i hi m 0) (by rw [child0_length]; omega) (child_end HI.out.wf i hi m).2 (by decide)
        rw [EBN.out, (child_end HI.out.wf i hi m).1] at hE
        have HE := Lib.hid hE
        clear hE
        go_wp2_with fail
        refine HE.out.mono ?_
        rintro e w3 ⟨rfl, h3, t3⟩
        have H3 := Lib.hid h3
        have T3 := Lib.hid t3
        clear h3 t3
        go_wp2
        have trE := H3.out.tree
        rw [ET.out] at trE
        have hfin := H3.out.lock 0
        rw [ET.out] at hfin
        refine leaves_cons (f := 24) (args := #[.pointer (some ⟨x.T, 0, none⟩)]) (by simp) (by simp [go_sem]) ?_
        refine (unlock_deferred muLib ⟨x.T, 0, none⟩ .returning _ (trE.cell 0) (trE.frozen 0)).mono ?_
        rintro e u' w'' ⟨rfl, rfl, rfl⟩
        have T3' := T3.out
        rw [child0_length] at T3'
        have tfin : Turn (x.own st.length) w' w3 := TOwn.out.then T3' (fun b hl hb => (hOwn.out b hb).resolve_right (by omega))
        exact ⟨_, results_tmp2 rfl _ _ _, x', by rw [EBN.out]; rfl, by rw [eC]; exact hfin, tfin.trans (turn_lock _), fun b hb => hOwn.out b (by rw [child0_length] at hb; exact hb), HBB.out⟩
  · have e : childF st i m = (10, st) := by unfold childF; rw [if_neg hm]
    rw [e]
    have hb : (decide (0 ≤ m) && decide (m ≤ 1099511627776)) = false := by
      rw [← Bool.not_eq_true, Bool.and_eq_true, decide_eq_true_iff, decide_eq_true_iff]
      exact hm
    rw [hb] at hr
    have HR := Lib.hid hr
    clear hr hb hm e hI h
    go_enter_defers Try.func17, Try.ntmps17
    go_wp2_with fail
    refine (HR.out _).mono ?_
    rintro e w' ⟨rfl, rfl⟩
    go_wp2
    exact ⟨_, results_tmp2 rfl _ _ _, x, rfl, HH.out, Turn.refl _ _, fun b hb => .inl hb, fun _ _ => rfl⟩
end Go.Proofs.Ytcfdpeafnpeddaa
