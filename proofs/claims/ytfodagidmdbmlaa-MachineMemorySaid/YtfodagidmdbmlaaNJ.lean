/- MachineSerial: the walk. -/
import Derived.Test.YtfodagidmdbmlaaND
import Derived.Test.YtfodagidmdbmlaaNI
namespace Go.Proofs.Ytfodagidmdbmlaa
set_option linter.unusedVariables false
set_option linter.unusedSimpArgs false
open Go.RowKit
attribute [local go_sem high] eqAns

theorem step_one (x : MStep) : ∀ u ∈ x.cells, u.oneCell' = true := by
  intro u hu
  simp [MStep.cells] at hu
  rcases hu with rfl | rfl | rfl | rfl | rfl <;> rfl
theorem own_step {w : World} {base : Nat} {A : Option Addr} {n cap : Nat} {l : List MStep} (h : Own w base 29 5 MStep.cells (.slice A n cap) l) {i : Nat} (hi : i < l.length) :
    ∃ g x, A = some ⟨g, 0, none⟩ ∧ l[i]? = some x ∧ ∀ j, j < 5 → w.cell? ⟨g, i * 5 + j, none⟩ = x.cells[j]? := by
  rcases h.cases with ⟨h, rfl⟩ | ⟨g, cap, rest, e1, h2, h3, h4, h5⟩
  · simp at hi
  · injection e1 with e1 e2 e3
    have hx : l[i]? = some l[i] := List.getElem?_eq_getElem hi
    exact ⟨g, l[i], e1, hx, fun j hj => by
      rw [h5.cell, List.getElem?_append_left (by rw [flat_length MStep.len]; omega)]
      exact flat_at MStep.len l i j hj hx⟩
theorem own_none_s (w : World) : Own (w.alloc (.cells #[] 29)) w.heap.size 29 5 MStep.cells (.slice (some ⟨w.heap.size, 0, none⟩) 0 0) [] :=
  RowAt.own (RowAt.new w 29 []) (Nat.le_refl _) rfl (by decide)
/-- The two lists of steps beside the machine. -/
structure Two (w : World) (B : Nat) (F : Nat → Prop) (v5 v6 : Value) (done now : List MStep) : Prop where
  d : Own w B 29 5 MStep.cells v5 done
  n : Own w B 29 5 MStep.cells v6 now
  df : ∀ g, v5.ownBlock = some g → ¬ F g
  nf : ∀ g, v6.ownBlock = some g → ¬ F g
  dn : ∀ g, v5.ownBlock = some g → v6.ownBlock ≠ some g
theorem Two.below {w w' : World} {B : Nat} {F : Nat → Prop} {v5 v6 : Value} {done now : List MStep} (h : Two w B F v5 v6 done now) (hb : Below w.heap.size w w') : Two w' B F v5 v6 done now :=
  ⟨Own.below h.d hb, Own.below h.n hb, h.df, h.nf, h.dn⟩
theorem Two.step {w w' : World} {B : Nat} {F F' : Nat → Prop} {v5 v6 : Value} {done now : List MStep} (h : Two w B F v5 v6 done now) (ht : Turn F w w') (hF : ∀ i, F' i → F i ∨ w.heap.size ≤ i) : Two w' B F' v5 v6 done now :=
  ⟨Own.turn h.d ht h.df, Own.turn h.n ht h.nf, fun g hg hh => (hF g hh).elim (h.df g hg) fun h2 => by have := (Own.base h.d g hg).2; omega,
   fun g hg hh => (hF g hh).elim (h.nf g hg) fun h2 => by have := (Own.base h.n g hg).2; omega, h.dn⟩
theorem Two.clear {w : World} {B : Nat} {F : Nat → Prop} {v5 v6 : Value} {done now : List MStep} (h : Two w B F v5 v6 done now) : Two w B F v5 (.slice none 0 0) done [] :=
  ⟨h.d, Own.nil _ _ _ _ _, h.df, fun g hg => by simp [Value.ownBlock] at hg, fun g _ hg => by simp [Value.ownBlock] at hg⟩
set_option maxRecDepth 100000 in
set_option maxHeartbeats 8000000 in
theorem serial_walk (A : Option Addr) (n cap : Nat) (xs : List MStep) (w : World) (hn : xs.length = n) (hm : n < 2513169434900) (hx : ∀ o ∈ xs, o.Fits) (h : SliceRd w A 5 MStep.cells xs) :
    Calls Try.prog 3 #[.slice A n cap] w fun e w' => e = .returned (.bool true) ∧ Below w.heap.size w w' := by
  have HX := Lib.hid hx
  have HN := Lib.hid hn
  have HR := Lib.hid h
  clear hx hn h
  go_enter Try.func3, Try.ntmps3
  go_wp2_with fail
  refine (anchor_any w).mono ?_
  rintro e w1 ⟨rfl, b1⟩
  have B1 := Lib.hid b1
  clear b1
  go_wp2_with fail
  refine (new_yes 1 0 w1 (by decide)).mono ?_
  rintro e w2 ⟨m, F0, rfl, h2, f2, b2⟩
  have H2 := Lib.hid h2
  have F2 := Lib.hid f2
  have B2 := Lib.hid b2
  have END := Lib.hid (show ∀ w', Below w1.heap.size w1 w' → Below w.heap.size w w' from fun w' hb => B1.out.trans (hb.mono B1.out.size))
  clear h2 f2 b2
  go_wp2_with fail
  go_loopw [5, 6, 28] (fun v5 v6 ix wr => ∃ (i : Nat) (F : Nat → Prop) (M : Mach) (done now : List MStep) (A5 A6 : Option Addr) (c5 c6 : Nat), i ≤ n ∧ ix = .int .i64 i ∧ v5 = .slice A5 done.length c5 ∧ v6 = .slice A6 now.length c6 ∧ Hid (MM F wr m M) ∧ Hid (∀ i, F i → w1.heap.size ≤ i) ∧ Hid (SerInv M done now) ∧ Hid (Two wr w1.heap.size F (.slice A5 done.length c5) (.slice A6 now.length c6) done now) ∧ Hid (done.length + now.length ≤ i) ∧ Hid (Below w1.heap.size w1 wr)) (fun _ _ ix _ => n - (intOf ix).toNat)
  case atStart => exact ⟨0, F0, _, [], [], none, none, 0, 0, by omega, rfl, rfl, rfl, H2.out, F2.out, ser_new, ⟨Own.nil _ _ _ _ _, Own.nil _ _ _ _ _, fun g hg => by simp [Value.ownBlock] at hg, fun g hg => by simp [Value.ownBlock] at hg, fun g hg => by simp [Value.ownBlock] at hg⟩, Nat.le_refl _, B2.out⟩
  case round =>
    clear H2 F2 B2
    obtain ⟨k, F, M, done, now, A5, A6, c5, c6, hk, rfl, rfl, rfl, HM, HF, HS, HT, HL, HB⟩ := hrel
    obtain ⟨d, hd⟩ : ∃ z, z = done.length := ⟨_, rfl⟩
    obtain ⟨nl, hnl⟩ : ∃ z, z = now.length := ⟨_, rfl⟩
    rw [← hd, ← hnl] at HT HL ⊢
    have HD := Lib.hid hd
    have HNL := Lib.hid hnl
    clear hd hnl
    by_cases hlt : k < n
    · obtain ⟨x, hx⟩ : ∃ x, xs[k]? = some x := ⟨_, List.getElem?_eq_getElem (by rw [HN.out]; exact hlt)⟩
      obtain ⟨b, off, rfl, hb, hc⟩ := ((HR.out.below B1.out).below HB.out).at hx
      have FX := Lib.hid (HX.out x (List.mem_of_getElem? hx))
      obtain ⟨kd, se, ga, ky, va⟩ := x
      have c0' := hc 0 (by omega)
      have c1' := hc 1 (by omega)
      have c2' := hc 2 (by omega)
      have c3' := hc 3 (by omega)
      have c4' := hc 4 (by omega)
      simp only [MStep.cells, List.getElem?_cons_zero, List.getElem?_cons_succ, Nat.add_zero] at c0' c1' c2' c3' c4'
      clear hc hx hb
      have hbs := (Below.refl wr.heap.size wr).alloc (Nat.le_refl _) (.cells #[.int .i64 kd, .int .i64 0, .int .i64 ga, .string ky, .string va] 29)
      have rbs := RowAt.new wr 29 [.int .i64 kd, .int .i64 0, .int .i64 ga, .string ky, .string va]
      have e0 := rbs.cell 0
      have e1 := rbs.cell 1
      have e2 := rbs.cell 2
      have e3 := rbs.cell 3
      have e4 := rbs.cell 4
      simp only [List.getElem?_cons_zero, List.getElem?_cons_succ] at e0 e1 e2 e3 e4
      have HM2 := Lib.hid (HM.out.below hbs)
      have HT2 := Lib.hid (HT.out.below hbs)
      have HB2 := Lib.hid (HB.out.trans (hbs.mono HB.out.size))
      have hbf : ¬ F wr.heap.size := fun hh => absurd (HM.out.lt _ hh) (Nat.lt_irrefl _)
      go_wp2_with fail
      refine (do_mm F m M ⟨kd, 0, ga, ky, va⟩ _ HM2.out FX.out.2.2.2.1.le FX.out.2.2.2.2.le).mono ?_
      rintro e w5 ⟨he, F', h5, f5, t5⟩
      obtain ⟨M', hM'⟩ : ∃ z, z = (doF M ⟨kd, 0, ga, ky, va⟩).1 := ⟨_, rfl⟩
      obtain ⟨aa, av, aj, ae, hra⟩ := ans_form (doF M ⟨kd, 0, ga, ky, va⟩).2
      rw [hra] at he
      have he2 : e = .returned (.tuple #[.agg #[.bool aa, .string av, .int .i64 aj], .int .i64 ae]) := he
      subst he2
      rw [← hM'] at h5
      have hb6 := (Below.refl w5.heap.size w5).alloc (Nat.le_refl _) (.cells #[.bool aa, .string av, .int .i64 aj] 31)
      have rx5 := rbs.turn t5 hbf
      obtain ⟨bx, hbx⟩ : ∃ z, z = wr.heap.size := ⟨_, rfl⟩
      have rx6 := rx5.below hb6
      rw [← hbx] at rx6
      have hlt5 : wr.heap.size < w5.heap.size := rx5.lt
      have HM6 := Lib.hid (h5.below hb6)
      have HF6 := Lib.hid (show ∀ i, F' i → w1.heap.size ≤ i from fun i hi => (f5 i hi).elim (HF.out i) fun h => Nat.le_trans HB2.out.size h)
      have HT6 := Lib.hid ((HT2.out.step t5 f5).below hb6)
      have HB6 := Lib.hid (HB2.out.trans ((t5.below (B := w1.heap.size) HB2.out.size fun i hi hh => by have := HF.out i hh; omega).trans (hb6.mono (Nat.le_trans HB2.out.size t5.size))))
      have RX6 := Lib.hid rx6
      have RA6 := Lib.hid (RowAt.new w5 31 [.bool aa, .string av, .int .i64 aj])
      have HF5 := Lib.hid (show ∀ i, F' i → i < w5.heap.size from fun i hi => h5.lt i hi)
      have HBX := Lib.hid hbx
      have HBXF := Lib.hid (show ¬ F' bx from fun hh => by
        rcases f5 bx hh with h | h
        · exact hbf (by rw [← hbx]; exact h)
        · have := hbs.size
          have h2 := rbs.lt
          omega)
      have HLT5 := Lib.hid (show bx < w5.heap.size by omega)
      have HM' := Lib.hid hM'
      have HRA := Lib.hid hra
      have z0 := rx6.cell 0
      have z3 := rx6.cell 3
      have za := RA6.out.cell 2
      simp only [List.getElem?_cons_zero, List.getElem?_cons_succ] at z0 z3 za
      rw [hbx] at z0 z3
      clear he h5 f5 t5 hb6 rx5 rx6 hbx hbs rbs e0 e1 e2 e3 e4 hbf hM' hra c0' c1' c2' c3' c4'
      by_cases hae : ae = 0
      · subst hae
        have HP := Lib.hid (show SerPost M done now ⟨kd, 0, ga, ky, va⟩ from ser_step HS.out rfl (by rw [HRA.out]))
        have HKD := Lib.hid (show 1 ≤ kd ∧ kd ≤ 6 by
          have hr : refuseF M ⟨kd, 0, ga, ky, va⟩ = 0 := by
            by_cases hr : refuseF M ⟨kd, 0, ga, ky, va⟩ = 0
            · exact hr
            · have h1 := HRA.out
              rw [doF_no hr] at h1
              injection h1 with h1 h2
          obtain ⟨k', ht⟩ := taken hr
          exact ht.kind)
        by_cases e16 : kd = 1 ∨ kd = 6
        · have SI := Lib.hid (show SerInv M' done [] by have := HP.out; unfold SerPost at this; rw [if_pos e16, ← HM'.out] at this; exact this)
          have HTC := Lib.hid HT6.out.clear
          rcases e16 with rfl | rfl
          · go_wp2_with fail
            exact ⟨⟨k + 1, F', M', done, [], A5, none, c5, 0, by omega, rfl, by rw [← HD.out], rfl, HM6, HF6, SI, by rw [← HD.out]; exact HTC, Lib.hid (by have := HL.out; rw [← HD.out]; simp; omega), HB6⟩, by show n - ((k : Int) + 1).toNat < n - (k : Int).toNat; omega⟩
          · go_wp2_with fail
            exact ⟨⟨k + 1, F', M', done, [], A5, none, c5, 0, by omega, rfl, by rw [← HD.out], rfl, HM6, HF6, SI, by rw [← HD.out]; exact HTC, Lib.hid (by have := HL.out; rw [← HD.out]; simp; omega), HB6⟩, by show n - ((k : Int) + 1).toNat < n - (k : Int).toNat; omega⟩
        have z1 := RX6.out.cell 1
        have z2 := RX6.out.cell 2
        have z4 := RX6.out.cell 4
        simp only [List.getElem?_cons_zero, List.getElem?_cons_succ] at z1 z2 z4
        rw [HBX.out] at z1 z2 z4
        by_cases e34 : kd = 3 ∨ kd = 4
        · have SI := Lib.hid (show SerInv M' done (now ++ [⟨kd, 0, ga, ky, va⟩]) by have := HP.out; unfold SerPost at this; rw [if_neg e16, if_pos e34, ← HM'.out] at this; exact this)
          clear e16
          rcases e34 with rfl | rfl
          · skip
            have hbw := (Below.refl (w5.alloc (.cells #[.bool aa, .string av, .int .i64 aj] 31)).heap.size (w5.alloc (.cells #[.bool aa, .string av, .int .i64 aj] 31))).alloc (Nat.le_refl _) (.cells #[.int .i64 3, .int .i64 0, .int .i64 ga, .string ky, .string va] 29)
            have HOA := Lib.hid (Own.below HT6.out.n hbw)
            have hz6 : (w5.alloc (.cells #[.bool aa, .string av, .int .i64 aj] 31)).heap.size = w5.heap.size + 1 := by simp
            have rbq := RowAt.new (w5.alloc (.cells #[.bool aa, .string av, .int .i64 aj] 31)) 29 (MStep.cells (⟨3, 0, ga, ky, va⟩ : MStep))
            rw [hz6] at rbq
            have RBA := Lib.hid rbq
            have HSL := Lib.hid (show now.length + 1 ≤ maxLen ∧ (now.length + 1) * 56 ≤ 140737488355328 by have := HL.out; rw [← HNL.out]; unfold maxLen; omega)
            have HWB := Lib.hid (show w1.heap.size ≤ ((w5.alloc (.cells #[.bool aa, .string av, .int .i64 aj] 31)).alloc (.cells #[.int .i64 3, .int .i64 0, .int .i64 ga, .string ky, .string va] 29)).heap.size from Nat.le_trans HB6.out.size hbw.size)
            have HDW := Lib.hid (Own.below HT6.out.d hbw)
            have HMW := Lib.hid (HM6.out.below hbw)
            clear hbw rbq hz6
            go_wp2_with (first | (refine push_list MStep.cells 29 22 29 (.agg #[.int .i64 0, .int .i64 0, .int .i64 0, .string ⟨#[]⟩, .string ⟨#[]⟩]) 5 56 Try.underlying22 (by kernel_rfl) rfl (by decide) MStep.len step_one _ _ (by rfl) (by rfl) w1.heap.size (.slice A6 nl c6) now (⟨3, 0, ga, ky, va⟩ : MStep) (by rfl) HOA.out (w5.heap.size + 1) 1 (by rfl) RBA.out HSL.out.1 HSL.out.2 HWB.out (w5.heap.size + 2) (by simp) ?_; intro g8 cap8 w8 o8 g8' l8 l9; have O8 := Lib.hid o8; have G8 := Lib.hid g8'; have L8 := Lib.hid l8; have L9 := Lib.hid l9; clear o8 g8' l8 l9))
            have tg := (Turn.refl (fun q => (Value.slice A6 nl c6).ownBlock = some q) _).grown G8.out fun q hq => .inl hq
            have HM9 := Lib.hid (HMW.out.turn tg fun i hi hh => HT6.out.nf i hh hi)
            have hdb : ∀ g, (Value.slice A5 d c5).ownBlock = some g → g < w5.heap.size + 1 := fun g hg => by have := (Own.base HT6.out.d g hg).2; simpa using this
            have T9 := Lib.hid (show Two w8 w1.heap.size F' (.slice A5 d c5) (.slice (some ⟨g8, 0, none⟩) (now.length + 1) cap8) done (now ++ [(⟨3, 0, ga, ky, va⟩ : MStep)]) from
              ⟨Own.turn HDW.out tg fun g hg hh => HT6.out.dn g hg hh, O8.out, HT6.out.df, fun g hg hh => by
                have e : g8 = g := by simpa [Value.ownBlock] using hg
                subst e
                rcases L8.out with h | h
                · exact HT6.out.nf _ h hh
                · have := HF5.out _ hh; omega, fun g hg hh => by
                have e : g8 = g := by simpa [Value.ownBlock] using hh
                subst e
                rcases L8.out with h | h
                · exact HT6.out.dn _ hg h
                · have := hdb _ hg; omega⟩)
            have B9 := Lib.hid ((HB6.out.alloc HB6.out.size (.cells #[.int .i64 3, .int .i64 0, .int .i64 ga, .string ky, .string va] 29)).grown G8.out HWB.out fun q hq => (Own.base HT6.out.n q hq).1)
            exact ⟨⟨k + 1, F', M', done, now ++ [(⟨3, 0, ga, ky, va⟩ : MStep)], A5, some ⟨g8, 0, none⟩, c5, cap8, by omega, rfl, by rw [← HD.out], by simp, HM9, HF6, SI, by rw [← HD.out, List.length_append]; exact T9, Lib.hid (by have := HL.out; rw [List.length_append, List.length_singleton, ← HD.out, ← HNL.out]; omega), B9⟩, by show n - ((k : Int) + 1).toNat < n - (k : Int).toNat; omega⟩
          · skip
            have hbw := (Below.refl (w5.alloc (.cells #[.bool aa, .string av, .int .i64 aj] 31)).heap.size (w5.alloc (.cells #[.bool aa, .string av, .int .i64 aj] 31))).alloc (Nat.le_refl _) (.cells #[.int .i64 4, .int .i64 0, .int .i64 ga, .string ky, .string va] 29)
            have HOA := Lib.hid (Own.below HT6.out.n hbw)
            have hz6 : (w5.alloc (.cells #[.bool aa, .string av, .int .i64 aj] 31)).heap.size = w5.heap.size + 1 := by simp
            have rbq := RowAt.new (w5.alloc (.cells #[.bool aa, .string av, .int .i64 aj] 31)) 29 (MStep.cells (⟨4, 0, ga, ky, va⟩ : MStep))
            rw [hz6] at rbq
            have RBA := Lib.hid rbq
            have HSL := Lib.hid (show now.length + 1 ≤ maxLen ∧ (now.length + 1) * 56 ≤ 140737488355328 by have := HL.out; rw [← HNL.out]; unfold maxLen; omega)
            have HWB := Lib.hid (show w1.heap.size ≤ ((w5.alloc (.cells #[.bool aa, .string av, .int .i64 aj] 31)).alloc (.cells #[.int .i64 4, .int .i64 0, .int .i64 ga, .string ky, .string va] 29)).heap.size from Nat.le_trans HB6.out.size hbw.size)
            have HDW := Lib.hid (Own.below HT6.out.d hbw)
            have HMW := Lib.hid (HM6.out.below hbw)
            clear hbw rbq hz6
            go_wp2_with (first | (refine push_list MStep.cells 29 22 29 (.agg #[.int .i64 0, .int .i64 0, .int .i64 0, .string ⟨#[]⟩, .string ⟨#[]⟩]) 5 56 Try.underlying22 (by kernel_rfl) rfl (by decide) MStep.len step_one _ _ (by rfl) (by rfl) w1.heap.size (.slice A6 nl c6) now (⟨4, 0, ga, ky, va⟩ : MStep) (by rfl) HOA.out (w5.heap.size + 1) 1 (by rfl) RBA.out HSL.out.1 HSL.out.2 HWB.out (w5.heap.size + 2) (by simp) ?_; intro g8 cap8 w8 o8 g8' l8 l9; have O8 := Lib.hid o8; have G8 := Lib.hid g8'; have L8 := Lib.hid l8; have L9 := Lib.hid l9; clear o8 g8' l8 l9))
            have tg := (Turn.refl (fun q => (Value.slice A6 nl c6).ownBlock = some q) _).grown G8.out fun q hq => .inl hq
            have HM9 := Lib.hid (HMW.out.turn tg fun i hi hh => HT6.out.nf i hh hi)
            have hdb : ∀ g, (Value.slice A5 d c5).ownBlock = some g → g < w5.heap.size + 1 := fun g hg => by have := (Own.base HT6.out.d g hg).2; simpa using this
            have T9 := Lib.hid (show Two w8 w1.heap.size F' (.slice A5 d c5) (.slice (some ⟨g8, 0, none⟩) (now.length + 1) cap8) done (now ++ [(⟨4, 0, ga, ky, va⟩ : MStep)]) from
              ⟨Own.turn HDW.out tg fun g hg hh => HT6.out.dn g hg hh, O8.out, HT6.out.df, fun g hg hh => by
                have e : g8 = g := by simpa [Value.ownBlock] using hg
                subst e
                rcases L8.out with h | h
                · exact HT6.out.nf _ h hh
                · have := HF5.out _ hh; omega, fun g hg hh => by
                have e : g8 = g := by simpa [Value.ownBlock] using hh
                subst e
                rcases L8.out with h | h
                · exact HT6.out.dn _ hg h
                · have := hdb _ hg; omega⟩)
            have B9 := Lib.hid ((HB6.out.alloc HB6.out.size (.cells #[.int .i64 4, .int .i64 0, .int .i64 ga, .string ky, .string va] 29)).grown G8.out HWB.out fun q hq => (Own.base HT6.out.n q hq).1)
            exact ⟨⟨k + 1, F', M', done, now ++ [(⟨4, 0, ga, ky, va⟩ : MStep)], A5, some ⟨g8, 0, none⟩, c5, cap8, by omega, rfl, by rw [← HD.out], by simp, HM9, HF6, SI, by rw [← HD.out, List.length_append]; exact T9, Lib.hid (by have := HL.out; rw [List.length_append, List.length_singleton, ← HD.out, ← HNL.out]; omega), B9⟩, by show n - ((k : Int) + 1).toNat < n - (k : Int).toNat; omega⟩
        by_cases e5 : kd = 5
        · obtain ⟨ha1, hsi⟩ : aj = 1 ∧ SerInv M' (done ++ now) [] := by
            have := HP.out
            unfold SerPost at this
            rw [if_neg e16, if_neg e34, if_pos e5, ← HM'.out, HRA.out] at this
            exact this
          have SI := Lib.hid hsi
          subst ha1
          clear e16 e34 hsi
          subst e5
          have HRD := Lib.hid (Own.read HT6.out.n)
          have HSL := Lib.hid (show done.length + now.length ≤ maxLen ∧ (done.length + now.length) * 56 ≤ 140737488355328 by have := HL.out; rw [← HNL.out, ← HD.out]; unfold maxLen; omega)
          go_wp2_with (at_builtin; refine cat_list MStep.cells 29 22 22 29 (.agg #[.int .i64 0, .int .i64 0, .int .i64 0, .string ⟨#[]⟩, .string ⟨#[]⟩]) 5 56 Try.underlying22 Try.underlying22 (by kernel_rfl) rfl (by decide) MStep.len step_one _ _ (by rfl) (by rfl) w1.heap.size (.slice A5 d c5) done now (by rfl) HT6.out.d (.slice A6 nl c6) (by rfl) HRD.out HSL.out.1 HSL.out.2 HB6.out.size ?_)
          intro v8 w8 o8 g8 l8
          have O8 := Lib.hid o8
          have G8 := Lib.hid g8
          have L8 := Lib.hid l8
          obtain ⟨A8, c8, rfl⟩ := own_forms o8
          have T9 := Lib.hid (show Two w8 w1.heap.size F' (.slice A8 (done ++ now).length c8) (.slice none 0 0) (done ++ now) [] from
            ⟨O8.out, Own.nil _ _ _ _ _, fun g hg hh => by
              rcases L8.out with h | h
              · exact HT6.out.df g (by rw [← h]; exact hg) hh
              · rw [hg] at h
                injection h with h
                have h2 := HF5.out _ hh
                have hz6 : (w5.alloc (.cells #[.bool aa, .string av, .int .i64 1] 31)).heap.size = w5.heap.size + 1 := by simp
                omega, fun g hg => by simp [Value.ownBlock] at hg, fun g _ hg => by simp [Value.ownBlock] at hg⟩)
          have B9 := Lib.hid (HB6.out.grown G8.out HB6.out.size fun q hq => (Own.base HT6.out.d q hq).1)
          have HM9 := Lib.hid (HM6.out.turn ((Turn.refl (fun q => (Value.slice A5 d c5).ownBlock = some q) _).grown G8.out fun q hq => .inl hq) fun i hi hh => HT6.out.df i hh hi)
          clear o8 g8 l8
          go_wp2_with fail
          exact ⟨⟨k + 1, F', M', done ++ now, [], A8, none, c8, 0, by omega, rfl, by simp, rfl, HM9, HF6, SI, T9, Lib.hid (by have := HL.out; rw [List.length_append, ← HD.out, ← HNL.out]; simp; omega), B9⟩, by show n - ((k : Int) + 1).toNat < n - (k : Int).toNat; omega⟩
        have hkd : kd = 2 := by have := HKD.out; omega
        subst hkd
        obtain ⟨ha1, hsi⟩ : (aa, av, aj) = ((wantW (done ++ now) ky).1, (wantW (done ++ now) ky).2, (0 : Int)) ∧ SerInv M' done now := by
          have := HP.out
          unfold SerPost at this
          rw [if_neg e16, if_neg e34, if_neg e5, ← HM'.out, HRA.out] at this
          exact this
        have SI := Lib.hid hsi
        injection ha1 with ha1 ha2
        injection ha2 with ha2 ha3
        subst ha3
        have HA1 := Lib.hid ha1
        have HA2 := Lib.hid ha2
        clear e16 e34 e5 hsi ha1 ha2
        have hb7 := (Below.refl (w5.alloc (.cells #[.bool aa, .string av, .int .i64 0] 31)).heap.size (w5.alloc (.cells #[.bool aa, .string av, .int .i64 0] 31))).alloc (Nat.le_refl _) (.cells #[.bool false, .string ⟨#[]⟩, .int .i64 0] 31)
        have hb8 := (Below.refl ((w5.alloc (.cells #[.bool aa, .string av, .int .i64 0] 31)).alloc (.cells #[.bool false, .string ⟨#[]⟩, .int .i64 0] 31)).heap.size ((w5.alloc (.cells #[.bool aa, .string av, .int .i64 0] 31)).alloc (.cells #[.bool false, .string ⟨#[]⟩, .int .i64 0] 31))).alloc (Nat.le_refl _) (.cells #[] 29)
        have hz6 : (w5.alloc (.cells #[.bool aa, .string av, .int .i64 0] 31)).heap.size = w5.heap.size + 1 := by simp
        have hz7 : ((w5.alloc (.cells #[.bool aa, .string av, .int .i64 0] 31)).alloc (.cells #[.bool false, .string ⟨#[]⟩, .int .i64 0] 31)).heap.size = w5.heap.size + 2 := by simp
        have rw7 := RowAt.new (w5.alloc (.cells #[.bool aa, .string av, .int .i64 0] 31)) 31 [.bool false, .string ⟨#[]⟩, .int .i64 0]
        rw [hz6] at rw7
        have oe := own_none_s ((w5.alloc (.cells #[.bool aa, .string av, .int .i64 0] 31)).alloc (.cells #[.bool false, .string ⟨#[]⟩, .int .i64 0] 31))
        rw [hz7] at oe
        have RX7 := Lib.hid (RX6.out.below hb7)
        have RA7 := Lib.hid (RA6.out.below hb7)
        have RW7 := Lib.hid rw7
        have OE := Lib.hid oe
        have HB67 := Lib.hid hb7
        have HB78 := Lib.hid hb8
        have HZ7 := Lib.hid hz7
        have RDD := Lib.hid (Own.read (Own.below (Own.below HT6.out.d hb7) hb8))
        have HN7 := Lib.hid (Own.below HT6.out.n hb7)
        have HSL := Lib.hid (show ([] : List MStep).length + done.length ≤ maxLen ∧ (([] : List MStep).length + done.length) * 56 ≤ 140737488355328 by have := HL.out; rw [← HD.out]; unfold maxLen; simp; omega)
        have HSL2 := Lib.hid (show ([] ++ done : List MStep).length + now.length ≤ maxLen ∧ (([] ++ done : List MStep).length + now.length) * 56 ≤ 140737488355328 by have := HL.out; rw [List.nil_append, ← HD.out, ← HNL.out]; unfold maxLen; omega)
        obtain ⟨L, hL⟩ : ∃ z, z = [] ++ done ++ now := ⟨_, rfl⟩
        have hLd : done ++ now = L := by rw [hL, List.nil_append]
        obtain ⟨l, hl⟩ : ∃ z, z = L.length := ⟨_, rfl⟩
        have hlb : l < 2513169434900 := by have := HL.out; rw [hl, ← hLd, List.length_append, ← HD.out, ← HNL.out]; omega
        have HLL := Lib.hid hl
        have HLQ := Lib.hid hL
        have HLD := Lib.hid hLd
        clear hb7 hb8 hz6 hz7 rw7 oe za hL hLd hl
        go_wp2_with (first
          | (at_builtin; refine cat_list MStep.cells 29 22 22 29 (.agg #[.int .i64 0, .int .i64 0, .int .i64 0, .string ⟨#[]⟩, .string ⟨#[]⟩]) 5 56 Try.underlying22 Try.underlying22 (by kernel_rfl) rfl (by decide) MStep.len step_one _ _ (by rfl) (by rfl) (w5.heap.size + 2) (.slice (some ⟨w5.heap.size + 2, 0, none⟩) 0 0) [] done (by rfl) OE.out (.slice A5 d c5) (by rfl) RDD.out HSL.out.1 HSL.out.2 (by simp) ?_; intro v9 w9 o9 g9 l9; have O9 := Lib.hid o9; have B9 := Lib.hid (HB78.out.grown g9 HB78.out.size (fun q hq => (by simp [Value.ownBlock] at hq; have := HZ7.out; omega))); have R9 := Lib.hid (Own.read (Own.below HN7.out B9.out)); clear o9 g9 l9)
          | (at_builtin; refine cat_list MStep.cells 29 22 22 29 (.agg #[.int .i64 0, .int .i64 0, .int .i64 0, .string ⟨#[]⟩, .string ⟨#[]⟩]) 5 56 Try.underlying22 Try.underlying22 (by kernel_rfl) rfl (by decide) MStep.len step_one _ _ (by rfl) (by rfl) (w5.heap.size + 2) v9 ([] ++ done) now (by rfl) O9.out (.slice A6 nl c6) (by rfl) R9.out HSL2.out.1 HSL2.out.2 (by have := B9.out.size; have := HZ7.out; omega) ?_; intro v10 w10 o10 g10 l10; have O10 := Lib.hid o10; have hv0 := own_forms o10; rw [← HLQ.out, ← HLL.out] at hv0; obtain ⟨A10, c10, hv⟩ := hv0; subst hv; have B10 := Lib.hid (B9.out.grown g10 B9.out.size (fun q hq => (by have := (Own.base O9.out q hq).1; have := HZ7.out; omega))); clear o10 g10 l10))
        rw [← HLQ.out] at O10
        rw [HLD.out] at HA1 HA2
        have RX10 := Lib.hid (RX7.out.below B10.out)
        have RA10 := Lib.hid (RA7.out.below B10.out)
        have RW10 := Lib.hid (RW7.out.below B10.out)
        have HM10 := Lib.hid ((HM6.out.below HB67.out).below B10.out)
        have HT10 := Lib.hid ((HT6.out.below HB67.out).below B10.out)
        have HB10 := Lib.hid ((HB6.out.trans (HB67.out.mono HB6.out.size)).trans (B10.out.mono (Nat.le_trans HB6.out.size HB67.out.size)))
        have hLT := Lib.hid (show w1.heap.size ≤ w5.heap.size + 1 by have := HB6.out.size; simpa using this)
        have hNF := Lib.hid (show ¬ F' (w5.heap.size + 1) from fun hh => by have := HF5.out _ hh; omega)
        have hNX := Lib.hid (show w5.heap.size + 1 ≠ bx by have := HLT5.out; omega)
        obtain ⟨bw, hbw⟩ : ∃ z, z = w5.heap.size + 1 := ⟨_, rfl⟩
        obtain ⟨ba, hba⟩ : ∃ z, z = w5.heap.size := ⟨_, rfl⟩
        have hba2 : ba ≠ bw := by omega
        have hT5 : ∀ g, (Value.slice A5 d c5).ownBlock = some g → g ≠ bw := fun g hg e => by
          have h1 := (Own.base HT6.out.d g hg).2
          simp at h1
          omega
        have hT6 : ∀ g, (Value.slice A6 nl c6).ownBlock = some g → g ≠ bw := fun g hg e => by
          have h1 := (Own.base HT6.out.n g hg).2
          simp at h1
          omega
        rw [← hbw] at RW10 hLT hNF hNX
        rw [← hba] at RA10
        have HBW := Lib.hid hbw
        have HBA := Lib.hid hba
        have HBA2 := Lib.hid hba2
        have HT5 := Lib.hid hT5
        have HT6' := Lib.hid hT6
        clear hbw hba hba2 hT5 hT6
        rw [← HBW.out, ← HBA.out, ← HBX.out]
        go_loopw [70] (fun ix wz => ∃ i : Nat, i ≤ l ∧ ix = .int .i64 i ∧ Hid (RowAt wz bw 31 [.bool (wantW (L.take i) ky).1, .string (wantW (L.take i) ky).2, .int .i64 0]) ∧ Hid (Turn (fun q => q = bw) w10 wz)) (fun ix _ => l - (intOf ix).toNat)
        case atStart => exact ⟨0, by omega, rfl, RW10.out, Turn.refl _ _⟩
        case round =>
          obtain ⟨i, hil, rfl, HW, HTZ⟩ := hrel
          have RXz := Lib.hid (RX10.out.turn HTZ.out (fun e => hNX.out e.symm))
          by_cases hlt2 : i < l
          · obtain ⟨g, y, hg, hy, hc⟩ := own_step (Own.turn O10.out HTZ.out fun g hg e => by have := (Own.base O10.out g hg).1; have := HBW.out; omega) (i := i) (by rw [← HLL.out]; exact hlt2)
            subst hg
            have HTK := Lib.hid (show lastW (L.take (i + 1)) ky = stepW ky (lastW (L.take i) ky) y by rw [List.take_add_one, hy, Option.toList_some, lastW_snoc])
            obtain ⟨yk, ys, yg, yy, yv⟩ := y
            have c0 := hc 0 (by omega)
            have c1 := hc 1 (by omega)
            have c2 := hc 2 (by omega)
            have c3 := hc 3 (by omega)
            have c4 := hc 4 (by omega)
            simp only [MStep.cells, List.getElem?_cons_zero, List.getElem?_cons_succ, Nat.add_zero] at c0 c1 c2 c3 c4
            have hbz := (Below.refl wr.heap.size wr).alloc (Nat.le_refl _) (.cells #[.int .i64 yk, .int .i64 ys, .int .i64 yg, .string yy, .string yv] 29)
            have rbz := RowAt.new wr 29 [.int .i64 yk, .int .i64 ys, .int .i64 yg, .string yy, .string yv]
            have rxz := (RXz.out.below hbz).cell 3
            have y0 := rbz.cell 0
            have y3 := rbz.cell 3
            have y4 := rbz.cell 4
            simp only [List.getElem?_cons_zero, List.getElem?_cons_succ] at rxz y0 y3 y4
            have RWz := Lib.hid (HW.out.below hbz)
            have TZz := Lib.hid (HTZ.out.trans (Turn.of_below hbz _))
            have hi0 : (0 : Int) ≤ (i : Int) := by omega
            have hi1 : (i : Int) < (l : Int) := by omega
            have hwne : bw ≠ wr.heap.size := fun e => by have := HW.out.lt; omega
            have wc := RWz.out.cell
            have wf := RWz.out.frozen
            clear hc hy hbz rbz
            cases hke : (yy.toList == ky.toList) with
            | false =>
              have HQ := Lib.hid (show wantW (L.take (i + 1)) ky = wantW (L.take i) ky by unfold wantW; rw [HTK.out]; unfold stepW; simp only; rw [if_neg (by rw [hke]; simp)])
              go_wp2_with fail
              exact ⟨⟨i + 1, by omega, rfl, by rw [HQ.out]; exact RWz.out, TZz.out⟩, by show l - ((i : Int) + 1).toNat < l - (i : Int).toNat; omega⟩
            | true =>
              have HQ := Lib.hid (show wantW (L.take (i + 1)) ky = leftW ⟨yk, ys, yg, yy, yv⟩ by unfold wantW; rw [HTK.out]; unfold stepW; simp only; rw [if_pos hke]; rfl)
              by_cases e3 : yk = 3
              · subst e3
                have HQ2 := Lib.hid (show wantW (L.take (i + 1)) ky = (true, yv) from HQ.out)
                go_wp2_with fail
                exact ⟨⟨i + 1, by omega, rfl, Lib.hid (by rw [HQ2.out]; exact ((((RWz.out.set 0 (.bool true)).set 1 (.string ⟨#[]⟩)).set 2 (.int .i64 0)).set 1 (.string yv)).congr rfl), Lib.hid (Turn.setCell (S := fun q => q = bw) (p := ⟨bw, 1, none⟩) (Turn.setCell (S := fun q => q = bw) (p := ⟨bw, 2, none⟩) (Turn.setCell (S := fun q => q = bw) (p := ⟨bw, 1, none⟩) (Turn.setCell (S := fun q => q = bw) (p := ⟨bw, 0, none⟩) (TZz.out) (.inl rfl) (.bool true)) (.inl rfl) (.string ⟨#[]⟩)) (.inl rfl) (.int .i64 0)) (.inl rfl) (.string yv))⟩, by show l - ((i : Int) + 1).toNat < l - (i : Int).toNat; omega⟩
              · have e3' : (yk == 3) = false := by simpa using e3
                have HQ2 := Lib.hid (show wantW (L.take (i + 1)) ky = (false, ⟨#[]⟩) by rw [HQ.out]; unfold leftW; simp only; rw [e3', if_neg e3])
                go_wp2_with fail
                exact ⟨⟨i + 1, by omega, rfl, Lib.hid (by rw [HQ2.out]; exact (((RWz.out.set 0 (.bool false)).set 1 (.string ⟨#[]⟩)).set 2 (.int .i64 0)).congr rfl), Lib.hid (Turn.setCell (S := fun q => q = bw) (p := ⟨bw, 2, none⟩) (Turn.setCell (S := fun q => q = bw) (p := ⟨bw, 1, none⟩) (Turn.setCell (S := fun q => q = bw) (p := ⟨bw, 0, none⟩) (TZz.out) (.inl rfl) (.bool false)) (.inl rfl) (.string ⟨#[]⟩)) (.inl rfl) (.int .i64 0))⟩, by show l - ((i : Int) + 1).toNat < l - (i : Int).toNat; omega⟩
          · obtain rfl : i = l := by omega
            have hall : L.take i = L := List.take_of_length_le (by rw [← HLL.out]; exact Nat.le_refl _)
            rw [hall, ← HA1.out, ← HA2.out] at HW
            have RAz := RA10.out.turn HTZ.out HBA2.out
            have w0 := HW.out.cell 0
            have w1' := HW.out.cell 1
            have w2' := HW.out.cell 2
            have v0 := RAz.cell 0
            have v1 := RAz.cell 1
            have v2 := RAz.cell 2
            simp only [List.getElem?_cons_zero, List.getElem?_cons_succ] at w0 w1' w2' v0 v1 v2
            have hqq : ansEq (aa, av, 0) (aa, av, 0) = true := ansEq_self _ _ _
            have HMz := Lib.hid (HM10.out.turn HTZ.out fun q hq e => hNF.out (e ▸ hq))
            have HTz := Lib.hid (show Two wr w1.heap.size F' (.slice A5 d c5) (.slice A6 nl c6) done now from ⟨Own.turn HT10.out.d HTZ.out HT5.out, Own.turn HT10.out.n HTZ.out HT6'.out, HT10.out.df, HT10.out.nf, HT10.out.dn⟩)
            have HBz := Lib.hid (HB10.out.trans (HTZ.out.below (B := w1.heap.size) HB10.out.size fun q hq (e : q = bw) => by have := hLT.out; omega))
            go_wp2_with fail
            exact ⟨⟨k + 1, F', M', done, now, A5, A6, c5, c6, by omega, rfl, by rw [← HD.out], by rw [← HNL.out], HMz, HF6, SI, by rw [← HD.out, ← HNL.out]; exact HTz, Lib.hid (by have := HL.out; rw [← HD.out, ← HNL.out]; omega), HBz⟩, by show n - ((k : Int) + 1).toNat < n - (k : Int).toNat; omega⟩
      · have HE := Lib.hid (show M' = M by
          rw [HM'.out]
          by_cases hr : refuseF M ⟨kd, 0, ga, ky, va⟩ = 0
          · exfalso
            have h1 := HRA.out
            rw [doF_rest hr] at h1
            have h2 := congrArg Prod.snd h1
            simp only at h2
            split at h2
            · exact hae h2.symm
            split at h2
            · exact hae h2.symm
            split at h2
            · exact hae h2.symm
            split at h2
            · exact hae h2.symm
            split at h2
            · exact hae h2.symm
            · exact hae h2.symm
          · rw [doF_no hr])
        have hae2 : (ae == 0) = false := by simpa using hae
        go_wp2_with fail
        exact ⟨⟨k + 1, F', M', done, now, A5, A6, c5, c6, by omega, rfl, by rw [← HD.out], by rw [← HNL.out], HM6, HF6, Lib.hid (by rw [HE.out]; exact HS.out), by rw [← HD.out, ← HNL.out]; exact HT6, Lib.hid (by have := HL.out; rw [← HD.out, ← HNL.out]; omega), HB6⟩, by show n - ((k : Int) + 1).toNat < n - (k : Int).toNat; omega⟩
    · obtain rfl : k = n := by omega
      go_wp2_with fail
      go_ret
      exact ⟨rfl, END.out _ HB.out⟩

end Go.Proofs.Ytfodagidmdbmlaa
