/- Install: the walk. -/
import Derived.Test.YtkbnfnfjmofcmaaC3
import Derived.Test.YtkbnfnfjmofcmaaApp
import Derived.Deep.RegionHeld3
import Derived.Deep.CutRange
namespace Go.Proofs.Ytkbnfnfjmofcmaa
set_option linter.unusedVariables false
set_option linter.unusedSimpArgs false
open Go.RowKit

/-- Is a version behind none of these? -/
def staleV (l : List Ver) (v : Ver) : Bool :=
  match l.getLast? with
  | some x => decide (0 ≤ orI [cmpI x.commit v.commit, cmpI x.writer v.writer])
  | none => false
theorem staleV_at {l : List Ver} {v x : Ver} {n : Nat} (hn : n + 1 = l.length) (hx : l[n]? = some x) : staleV l v = decide (0 ≤ orI [cmpI x.commit v.commit, cmpI x.writer v.writer]) := by
  unfold staleV
  rw [List.getLast?_eq_getElem?, show l.length - 1 = n by omega, hx]
theorem cell4 {w : World} {g : Nat} {T : TypeId} {cs : List Value} (h : RowAt w g T cs) (j : Nat) : w.cell? ⟨g, j, none⟩ = cs[j]? := h.cell j
theorem map_turn {w w' : World} {b : Nat} (h : w.grownBy w' (some b)) : Turn (fun i => i = b) w w' := (Turn.refl _ _).grown h fun i hi => .inl (Option.some.inj hi).symm
theorem ver_one (x : Ver) : ∀ u ∈ x.cells, u.oneCell' = true := by
  intro u hu
  simp [Ver.cells] at hu
  rcases hu with rfl | rfl | rfl | rfl <;> rfl
/-- Why a version is refused; 0: it is taken. -/
def refuse (k : ByteArray) (v : Ver) (l : List Ver) : Int :=
  if k.size < 1 ∨ 8 < k.size then 130 else if rightV v = false then 131 else if staleV l v = true then 132 else 0
set_option maxHeartbeats 1000000 in
theorem install_key (p : Nat) (k : ByteArray) (v : Ver) (w : World) (hk : k.size ≤ maxLen) (h : k.size < 1 ∨ 8 < k.size) :
    Calls Try.prog 15 #[.pointer (some ⟨p, 0, none⟩), .string k, .agg #[.int .i64 v.commit, .int .i64 v.writer, .bool v.found, .string v.value]] w fun e w' => e = .returned (.int .i64 130) ∧ Below w.heap.size w w' := by
  obtain ⟨c, u, f, s⟩ := v
  have hb := (Below.refl w.heap.size w).alloc (Nat.le_refl _) (.cells #[.int .i64 c, .int .i64 u, .bool f, .string s] 27)
  unfold maxLen at hk
  by_cases h1 : k.size < 1
  · have h1' : (k.size : Int) < 1 := by omega
    go_enter Try.func15, Try.ntmps15
    go_wp2
    go_ret
    exact ⟨rfl, hb⟩
  · have h1' : ¬ (k.size : Int) < 1 := by omega
    have h2' : 8 < (k.size : Int) := by omega
    go_enter Try.func15, Try.ntmps15
    go_wp2
    go_ret
    exact ⟨rfl, hb⟩
set_option maxHeartbeats 1000000 in
theorem install_right (p : Nat) (k : ByteArray) (v : Ver) (w : World) (h1 : 1 ≤ k.size) (h2 : k.size ≤ 8) (hr : rightV v = false) :
    Calls Try.prog 15 #[.pointer (some ⟨p, 0, none⟩), .string k, .agg #[.int .i64 v.commit, .int .i64 v.writer, .bool v.found, .string v.value]] w fun e w' => e = .returned (.int .i64 131) ∧ Below w.heap.size w w' := by
  obtain ⟨c, u, f, s⟩ := v
  have hb := (Below.refl w.heap.size w).alloc (Nat.le_refl _) (.cells #[.int .i64 c, .int .i64 u, .bool f, .string s] 27)
  have h1' : ¬ (k.size : Int) < 1 := by omega
  have h2' : ¬ 8 < (k.size : Int) := by omega
  have HR := Lib.hid hr
  clear hr
  go_enter Try.func15, Try.ntmps15
  go_wp2_with (go_at_call 24; refine (right_any ⟨c, u, f, s⟩ _).mono ?_; rintro e w1 ⟨rfl, hb1⟩; rw [HR.out]; have HB := Lib.hid (hb.trans (hb1.mono (by simp))); clear hb1 hb)
  go_ret
  exact ⟨rfl, HB.out⟩
/-- What Install leaves, of a right version at a right key. -/
def InstPost (F : Nat → Prop) (p cnt N : Nat) (st : ByteArray → List Ver) (k : ByteArray) (v : Ver) (w : World) (e : Ending) (w' : World) : Prop :=
  if staleV (st k) v = true then e = .returned (.int .i64 132) ∧ Below w.heap.size w w'
  else e = .returned (.int .i64 0) ∧ ∃ F', SAt F' w' p (cnt + 1) (N + 1) (upd st k (st k ++ [v])) ∧ (∀ i, F' i → F i ∨ w.heap.size ≤ i) ∧ Turn F w w'
set_option maxRecDepth 100000 in
set_option maxHeartbeats 2000000 in
theorem install_rest (F : Nat → Prop) (p cnt N : Nat) (st : ByteArray → List Ver) (k : ByteArray) (v : Ver) (w : World) (h : SAt F w p cnt N st) (h1 : 1 ≤ k.size) (h2 : k.size ≤ 8) (hr : rightV v = true) (hN : N < 3000000000000) :
    Calls Try.prog 15 #[.pointer (some ⟨p, 0, none⟩), .string k, .agg #[.int .i64 v.commit, .int .i64 v.writer, .bool v.found, .string v.value]] w (InstPost F p cnt N st k v w) := by
  obtain ⟨c, u, f, s⟩ := v
  have hb := (Below.refl w.heap.size w).alloc (Nat.le_refl _) (.cells #[.int .i64 c, .int .i64 u, .bool f, .string s] 27)
  have rb := RowAt.new w 27 [.int .i64 c, .int .i64 u, .bool f, .string s]
  have h1' : ¬ (k.size : Int) < 1 := by omega
  have h2' : ¬ 8 < (k.size : Int) := by omega
  unfold InstPost
  obtain ⟨sb, hsb⟩ : ∃ sb, sb = staleV (st k) ⟨c, u, f, s⟩ := ⟨_, rfl⟩
  have HSB := Lib.hid hsb
  rw [← hsb]
  clear hsb
  have HR := Lib.hid hr
  have HS := Lib.hid h
  have HF0 := Lib.hid (show ∀ i, F i → i < w.heap.size by obtain ⟨_, _, _, _, _, _, _, _, q, _⟩ := h; exact q)
  clear hr h
  go_enter Try.func15, Try.ntmps15
  go_wp2_with fail
  refine (right_any ⟨c, u, f, s⟩ _).mono ?_
  rintro e w1 ⟨rfl, hb1⟩
  rw [HR.out]
  have hs1 := HS.out.below (hb.trans (hb1.mono (by simp)))
  have hB := hb.trans (hb1.mono (by simp))
  have rb1 := rb.below hb1
  have HB := Lib.hid hB
  have RB := Lib.hid rb1
  clear hb rb hb1 rb1 hB HS HR
  obtain ⟨b, n, fm, m1, m2, m3, m4, m5, m6, m7, m8, m9⟩ := hs1
  have hlk := m2.lookup (T := 58) (E := 57) Try.underlying9 Try.underlying58 (zero_list w1) (k := k) (by unfold maxLen; omega)
  have ho := m3.own k
  have hbl := m3.block k
  obtain ⟨A, cap, ev⟩ : ∃ A cap, (fm k).getD (.slice none 0 0) = .slice A (st k).length cap := by
    rcases ho.cases with ⟨e, e2⟩ | ⟨g, cap, rest, e, -⟩
    · exact ⟨none, 0, by rw [e, e2]; rfl⟩
    · exact ⟨_, _, e⟩
  rw [ev] at hlk ho hbl
  have hp0 := m1.cell 0
  have hp1 := m1.cell 1
  simp only [List.getElem?_cons_zero, List.getElem?_cons_succ] at hp0 hp1
  have M1 := Lib.hid m1
  have M2 := Lib.hid m2
  have M3 := Lib.hid m3
  have HO := Lib.hid ho
  have HBL := Lib.hid hbl
  have EV := Lib.hid ev
  have hl9 := m9 k
  have HM9 := Lib.hid m9
  clear m1 m2 m3 ho hbl ev m9
  obtain ⟨ln, hln⟩ : ∃ ln, ln = (st k).length := ⟨_, rfl⟩
  rw [← hln] at hlk hl9
  have HLN := Lib.hid hln
  clear hln
  go_wp2_with fail
  go_cut [52] from 28 to 52 (fun t wc => t = .bool sb ∧ Hid (Below w1.heap.size w1 wc))
  case first =>
    obtain ⟨b0, b1, b2, b3⟩ : _ ∧ _ ∧ _ ∧ _ := ⟨RB.out.cell 0, RB.out.cell 1, RB.out.cell 2, RB.out.cell 3⟩
    simp only [List.getElem?_cons_zero, List.getElem?_cons_succ] at b0 b1 b2 b3
    by_cases h0 : ln = 0
    · have hd : decide ((0 : Int) < (ln : Int)) = false := decide_eq_false (by omega)
      have hdn : decide (0 < ln) = false := decide_eq_false (by omega)
      have es : sb = false := by
        rw [HSB.out, List.length_eq_zero_iff.1 (HLN.out.symm.trans h0)]
        rfl
      clear h0
      subst es
      go_quiet (fail)
      go_wp2_with fail
      go_meet
      case rel => exact ⟨rfl, by exact ⟨rfl, rfl, rfl, Nat.le_refl _, fun _ _ => rfl⟩⟩
    · obtain ⟨m, hm⟩ : ∃ m, m + 1 = ln := ⟨ln - 1, by omega⟩
      have HV := Lib.hid HO.out.vers
      rw [← HLN.out] at HV
      obtain ⟨g, x, rfl, hx, c0, c1, c2, c3⟩ := HV.out.cells (i := m) (by have := HLN.out; omega)
      have hd : decide ((0 : Int) < (ln : Int)) = true := decide_eq_true (by omega)
      have hdn : decide (0 < ln) = true := decide_eq_true (by omega)
      have hw1 : IntKind.i64.wrap ((ln : Int) - 1) = (m : Int) := by rw [wrap_in (by omega) (by omega)]; omega
      have hw2 : (0 : Int) ≤ (m : Int) := by omega
      have hw3 : (m : Int) < (ln : Int) := by omega
      have es := HSB.out.trans (staleV_at (hm.trans HLN.out) hx)
      clear hm h0
      have ES := Lib.hid es
      clear es hx
      refine wp_region_still_tail 21 (by kernel_rfl) (by kernel_rfl) ?_
      simp only [List.take_succ_cons, List.take_zero, List.drop_succ_cons, List.drop_zero]
      repeat (first | still_step | still_call (compare_any _ _ _).mono (fun _ _ h => ⟨h.1, h.2.symm⟩))
      refine wpStill_nil ?_
      change wpList _ _ _ _ _ w1.drew
      have B2 : Below w1.heap.size w1 w1.drew := (Below.refl _ _).drew
      generalize w1.drew = W2 at B2 ⊢
      clear hp0 hp1 hlk b0 b1 b2 b3 c0 c1 c2 c3
      go_wp2_with (go_at_call 25; refine (or_any W2.heap.size [cmpI x.commit c, cmpI x.writer u] _ (by simp) (RowAt.new _ _ _)).mono ?_; rintro e w' ⟨rfl, rfl⟩)
      go_meet
      case rel => exact ⟨by rw [ES.out], B2.alloc B2.size _⟩
  case rest =>
    obtain ⟨rfl, HC⟩ := hcut
    have HBc := Lib.hid (HB.out.trans (HC.out.mono HB.out.size))
    cases sb with
    | true =>
      clear hp0 hp1 hlk
      go_wp2
      go_ret
      exact ⟨rfl, HBc.out⟩
    | false =>
      have rbc := RB.out.below HC.out
      obtain ⟨b0, b1, b2, b3⟩ : _ ∧ _ ∧ _ ∧ _ := ⟨rbc.cell 0, rbc.cell 1, rbc.cell 2, rbc.cell 3⟩
      simp only [List.getElem?_cons_zero, List.getElem?_cons_succ] at b0 b1 b2 b3
      have q0 := (M1.out.below HC.out).cell 0
      simp only [List.getElem?_cons_zero, List.getElem?_cons_succ] at q0
      clear hp0 hp1 hlk rbc
      have ho := HO.out
      rw [← HLN.out] at ho
      have HOA := Lib.hid (((Own.below ho HC.out).drawn).alloc (.cells #[.int .i64 c, .int .i64 u, .bool f, .string s] 27))
      have RBA := Lib.hid (RowAt.new wc.drew 27 (Ver.cells ⟨c, u, f, s⟩))
      have hzc := HC.out.size
      have BA := (Below.refl wc.drew.heap.size wc.drew).alloc (Nat.le_refl _) (.cells #[.int .i64 c, .int .i64 u, .bool f, .string s] 27)
      have ca : ∀ g j, g < wc.heap.size → (wc.drew.alloc (.cells #[.int .i64 c, .int .i64 u, .bool f, .string s] 27)).cell? ⟨g, j, none⟩ = wc.cell? ⟨g, j, none⟩ := fun g j hg => World.cell?_of_block (w := wc.drew) (BA.block g hg)
      have hpl := M1.out.lt
      have hbl := RB.out.lt
      have q1 := (ca p 0 (by omega)).trans q0
      have d0 := (ca w.heap.size 0 (by omega)).trans b0
      have d1 := (ca w.heap.size 1 (by omega)).trans b1
      have d2 := (ca w.heap.size 2 (by omega)).trans b2
      have d3 := (ca w.heap.size 3 (by omega)).trans b3
      have ta := Turn.of_below BA (fun _ => False)
      have M1A := Lib.hid (((M1.out.below HC.out).drew).turn ta id)
      have R1A := Lib.hid ((RB.out.below HC.out).drew.turn ta id)
      have M2A := Lib.hid (((M2.out.turn (Turn.of_below HC.out fun _ => False) id).like (w' := wc.drew) rfl).turn ta id)
      have NB := Lib.hid (show (Value.slice A ln cap).ownBlock ≠ some p ∧ (Value.slice A ln cap).ownBlock ≠ some w.heap.size ∧ ¬ (Value.slice A ln cap).ownBlock = some b from
        ⟨own_far HOA.out M1A.out (by decide), fun e => by have := HF0.out _ (HBL.out _ (by rw [← HLN.out]; exact e)); omega, fun e => VOwn.ne M2A.out HOA.out b e rfl⟩)
      have HSL := Lib.hid (show (st k).length + 1 ≤ maxLen ∧ ((st k).length + 1) * 40 ≤ 140737488355328 by rw [← HLN.out]; unfold maxLen; omega)
      have HSL2 := Lib.hid (show n < maxLen by unfold maxLen; omega)
      have HSL3 := Lib.hid (show k.size ≤ maxLen by unfold maxLen; omega)
      have HTA := Lib.hid (show Turn (fun _ => False) wc (wc.drew.alloc (.cells #[.int .i64 c, .int .i64 u, .bool f, .string s] 27)) from ⟨ta.os, ta.tape, ta.output, ta.size, ta.block⟩)
      clear ca ho BA ta
      go_wp2_with fail
      go_region_held3 (fun w' => w'.cell? ⟨p, 0, none⟩ = some (.map (some b)) ∧ w'.cell? ⟨w.heap.size, 0, none⟩ = some (.int .i64 c) ∧ w'.cell? ⟨w.heap.size, 1, none⟩ = some (.int .i64 u) ∧ w'.cell? ⟨w.heap.size, 2, none⟩ = some (.bool f) ∧ w'.cell? ⟨w.heap.size, 3, none⟩ = some (.string s))
        (first | exact ⟨q0, b0, b1, b2, b3⟩ | exact ⟨q1, d0, d1, d2, d3⟩ | exact ⟨q3, e0, e1, e2, e3⟩ | exact ⟨q4, f0, f1, f2, f3⟩)
        (first | (refine push_step Ver.cells 27 57 27 (.agg Ver.zero.cells.toArray) 4 40 Try.underlying57 (by kernel_rfl) rfl (by decide) Ver.len ver_one _ _ (by rfl) (by rfl) 0 (.slice A ln cap) (st k) ⟨c, u, f, s⟩ (by rfl) HOA.out wc.heap.size 1 (by rfl) RBA.out HSL.out.1 HSL.out.2 (Nat.zero_le _) (wc.heap.size + 1) (by simp) ?_; intro g5 cap5 w3 o3 g3 l3 l4; have O3 := Lib.hid o3; have M13 := Lib.hid (grown_far g3 NB.out.1 M1A.out); have R3 := Lib.hid (grown_far g3 NB.out.2.1 R1A.out); have T3 := Lib.hid ((Turn.refl (fun i => (Value.slice A ln cap).ownBlock = some i) _).grown g3 fun i hi => .inl hi); have M23 := Lib.hid (M2A.out.turn T3.out NB.out.2.2); have L3 := Lib.hid l3; clear o3 g3 l3 l4; have q3 := cell4 M13.out 0; have e0 := cell4 R3.out 0; have e1 := cell4 R3.out 1; have e2 := cell4 R3.out 2; have e3 := cell4 R3.out 3; simp only [List.getElem?_cons_zero, List.getElem?_cons_succ] at q3 e0 e1 e2 e3; obtain ⟨w4, hmu, m4, g4⟩ := M23.out.update (T := 58) (E := 57) Try.underlying9 Try.underlying58 HSL2.out (k := k) HSL3.out (.slice (some ⟨g5, 0, none⟩) ((st k).length + 1) cap5); have T4 := Lib.hid (map_turn g4); have M4 := Lib.hid m4; clear m4 g4; have q4 := cell4 (M13.out.turn T4.out (M23.out.ne M13.out)) 0; have f0 := cell4 (R3.out.turn T4.out (M23.out.ne R3.out)) 0; have f1 := cell4 (R3.out.turn T4.out (M23.out.ne R3.out)) 1; have f2 := cell4 (R3.out.turn T4.out (M23.out.ne R3.out)) 2; have f3 := cell4 (R3.out.turn T4.out (M23.out.ne R3.out)) 3; simp only [List.getElem?_cons_zero, List.getElem?_cons_succ] at q4 f0 f1 f2 f3))
      have z1 := cell4 (M13.out.turn T4.out (M23.out.ne M13.out)) 1
      have zf := (M13.out.turn T4.out (M23.out.ne M13.out)).frozen 1
      simp only [List.getElem?_cons_zero, List.getElem?_cons_succ] at z1
      clear q0 q1 q3 q4 b0 b1 b2 b3 d0 d1 d2 d3 e0 e1 e2 e3 f0 f1 f2 f3 hmu
      go_wp2
      go_ret
      have tA := HTA.out
      have t05 : Turn (fun i => (i = b ∨ i = p) ∨ (Value.slice A ln cap).ownBlock = some i) wc (w4.setCell ⟨p, 1, none⟩ (.int .i64 ((cnt : Int) + 1))) :=
        (((tA.mono fun _ _ h => h.elim).trans (T3.out.mono fun _ _ h => .inr h)).trans (T4.out.mono fun _ _ h => .inl (.inl h))).setCell (.inl (.inl (.inr rfl))) _
      have ev := EV.out
      rw [← HLN.out] at ev
      refine ⟨rfl, fun i => F i ∨ (wc.heap.size ≤ i ∧ i < (w4.setCell ⟨p, 1, none⟩ (.int .i64 ((cnt : Int) + 1))).heap.size), ⟨b, n + 1, _, ?_, M4.out.turn (S := fun i => i = p) (Turn.setCell (S := fun i => i = p) (p := ⟨p, 1, none⟩) (Turn.refl _ _) (.inl rfl) _) (fun e => M2.out.ne M1.out e.symm), ?_, .inl m4, .inl m5, ?_, by omega, by omega, ?_⟩, ?_, ?_⟩
      · exact ((M13.out.turn T4.out (M23.out.ne M13.out)).set 1 (.int .i64 ((cnt : Int) + 1))).congr (by simp)
      · refine (M3.out.turn (Turn.of_below HC.out fun _ => False) fun _ _ => id).put (X := fun i => i = b ∨ i = p) ?_ (by rw [ev]; exact t05) ?_ (by simp) ?_ ?_
        · rintro k2 v2 g e2 hg (rfl | rfl)
          · exact VOwn.ne M2.out (M3.out.yes k2 v2 e2).1 _ hg rfl
          · exact own_far (M3.out.yes k2 v2 e2).1 M1.out (by decide) hg
        · exact (Own.turn O3.out (T4.out) fun g hg => VOwn.ne M23.out O3.out g hg).turn (S := fun i => i = p) (Turn.setCell (S := fun i => i = p) (p := ⟨p, 1, none⟩) (Turn.refl _ _) (.inl rfl) _) fun g hg e => own_far O3.out M13.out (by decide) (by rw [← e]; exact hg)
        · intro g hg
          rw [ev]
          have e9 : g5 = g := by simpa [Value.ownBlock] using hg
          subst e9
          rcases L3.out with h | h
          · exact .inl h
          · exact .inr (by omega)
        · intro i hi
          have := m6 i hi
          have := HC.out.size
          omega
      · rintro i (hi | hi)
        · have := m6 i hi
          have := t05.size
          have := HC.out.size
          omega
        · exact hi.2
      · intro k2
        have := HM9.out k2
        unfold upd
        split
        · have := HM9.out k
          simp
          omega
        · omega
      · rintro i (hi | hi)
        · exact .inl hi
        · exact .inr (Nat.le_trans HBc.out.size hi.1)
      · refine (Turn.of_below HBc.out F).then t05 ?_
        rintro i hi ((rfl | rfl) | h)
        · exact m5
        · exact m4
        · exact HBL.out i (by rw [← HLN.out]; exact h)

end Go.Proofs.Ytkbnfnfjmofcmaa
