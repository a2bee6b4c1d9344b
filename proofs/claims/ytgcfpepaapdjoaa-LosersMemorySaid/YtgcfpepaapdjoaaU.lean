/- The contracts of replay, Win, Waiting and New. -/
import Derived.Test.YtgcfpepaapdjoaaT
import Derived.Deep.CutBlock
namespace Go.Proofs.Ytgcfpepaapdjoaa
set_option linter.unusedVariables false
set_option linter.unusedSimpArgs false
open Go.RowKit

/-! ### replay -/
theorem IsLT.drew {w : World} {g bs bl : Nat} {t : LT} (h : IsLT w g bs bl t) : IsLT w.drew g bs bl t := ⟨h.main, h.src, h.los, h.len, h.ord, h.pos, h.le⟩
/-- What is known of the numbers in a tree. -/
structure LT.Fit (t : LT) : Prop where
  los : ∀ m, t.loser.getD m 0 < t.src.length
  win : t.win < t.src.length
  opn : -1 ≤ t.opn ∧ t.opn < t.src.length
theorem IsLT.win_set {w w1 : World} {S : Nat → Prop} {g bs bl : Nat} {t : LT} (h : IsLT w1 g bs bl t) (hT : Turn S w w1) (hg : S g) (v : Nat) :
    IsLT (w1.setCell ⟨g, 3, none⟩ (.int .i64 v)) g bs bl { t with win := v } ∧ Turn S w (w1.setCell ⟨g, 3, none⟩ (.int .i64 v)) :=
  ⟨⟨h.main.set 3 (.int .i64 v), h.src.far (Ne.symm h.g_bs) _, h.los.far (Ne.symm h.g_bl) _, h.len, h.ord, h.pos, h.le⟩, hT.setCell (.inl hg) _⟩
theorem IsLT.built_set {w w1 : World} {S : Nat → Prop} {g bs bl : Nat} {t : LT} (h : IsLT w1 g bs bl t) (hT : Turn S w w1) (hg : S g) (v : Bool) :
    IsLT (w1.setCell ⟨g, 4, none⟩ (.bool v)) g bs bl { t with built := v } ∧ Turn S w (w1.setCell ⟨g, 4, none⟩ (.bool v)) :=
  ⟨⟨h.main.set 4 (.bool v), h.src.far (Ne.symm h.g_bs) _, h.los.far (Ne.symm h.g_bl) _, h.len, h.ord, h.pos, h.le⟩, hT.setCell (.inl hg) _⟩
theorem IsLT.opn_set {w w1 : World} {S : Nat → Prop} {g bs bl : Nat} {t : LT} (h : IsLT w1 g bs bl t) (hT : Turn S w w1) (hg : S g) (v : Int) :
    IsLT (w1.setCell ⟨g, 5, none⟩ (.int .i64 v)) g bs bl { t with opn := v } ∧ Turn S w (w1.setCell ⟨g, 5, none⟩ (.int .i64 v)) :=
  ⟨⟨h.main.set 5 (.int .i64 v), h.src.far (Ne.symm h.g_bs) _, h.los.far (Ne.symm h.g_bl) _, h.len, h.ord, h.pos, h.le⟩, hT.setCell (.inl hg) _⟩
theorem getD_set_lt {l : List Nat} {n v k : Nat} (h : ∀ m, l.getD m 0 < k) (hv : v < k) : ∀ m, (l.set n v).getD m 0 < k := by
  intro m
  rw [List.getD_eq_getElem?_getD]
  by_cases e : n = m
  · subst e
    by_cases hl : n < l.length
    · rw [List.getElem?_set_self hl]; exact hv
    · rw [List.getElem?_eq_none (by simp; omega)]
      have := h n
      rw [List.getD_eq_getElem?_getD, List.getElem?_eq_none (by omega)] at this
      exact this
  · rw [List.getElem?_set_ne e, ← List.getD_eq_getElem?_getD]
    exact h m
set_option maxHeartbeats 1600000 in
theorem replay_any (g bs bl : Nat) (t : LT) (i : Nat) (w : World) (h : IsLT w g bs bl t) (hi : i < t.src.length) (hl : ∀ m, t.loser.getD m 0 < t.src.length) :
    Calls Try.prog 27 #[.pointer (some ⟨g, 0, none⟩), .int .i64 i] w fun e w' => e = .returned (.tuple #[]) ∧
      IsLT w' g bs bl { t with loser := (replayF t.order t.src ((t.src.length + i) / 2) i t.loser).2, win := (replayF t.order t.src ((t.src.length + i) / 2) i t.loser).1 } ∧ Turn (fun b => b = bl ∨ b = g) w w' := by
  have le := h.le
  have hc := h.cells
  have HH := Lib.hid h
  have HL := Lib.hid hl
  have lg := h.main.lt
  clear h hl
  go_enter Try.func27, Try.ntmps27
  go_wp2
  go_loopw [4, 5] (fun v x wr => ∃ n c : Nat, ∃ l : List Nat, v = .int .i64 (c : Nat) ∧ x = .int .i64 (n : Nat) ∧ n < t.src.length ∧ c < t.src.length ∧ Hid (IsLT wr g bs bl { t with loser := l }) ∧ Hid (∀ m, l.getD m 0 < t.src.length) ∧ Hid (Turn (fun b => b = bl ∨ b = g) w wr) ∧
      Hid (replayF t.order t.src ((t.src.length + i) / 2) i t.loser = replayF t.order t.src n c l)) (fun _ x _ => (intOf x).toNat)
  case atStart => exact ⟨(t.src.length + i) / 2, i, t.loser, rfl, by go_num, by omega, hi, HH.out, HL.out, Turn.refl _ _, rfl⟩
  case round =>
    obtain ⟨n, c, l, rfl, rfl, hn, hcl, IR, LR, TR, ER⟩ := hrel
    clear hc HH HL
    have hcr := IR.out.cells
    simp only [] at hcr
    by_cases h0 : n = 0
    · subst h0
      have e : replayF t.order t.src ((t.src.length + i) / 2) i t.loser = (c, l) := by rw [ER.out, replayF_zero]
      have EE := Lib.hid e
      clear e
      have hfg := IR.out.main.frozen
      go_wp2
      go_end0
      rw [EE.out]
      exact ⟨rfl, IR.out.win_set TR.out (.inr rfl) c⟩
    · have hlo := IR.out.los_at (n := n) (by simp only []; omega)
      simp only [] at hlo
      have hxl : l.getD n 0 < t.src.length := LR.out n
      obtain ⟨x, hx⟩ : ∃ x, x = l.getD n 0 := ⟨_, rfl⟩
      rw [← hx] at hlo hxl
      have HX := Lib.hid hx
      clear hx
      have hfr := IR.out.los.frozen
      go_wp2_with fail
      refine (beats_any g bs bl { t with loser := l } x c _ IR.out hxl hcl).mono ?_
      simp only []
      rintro e w1 ⟨rfl, b1⟩
      have i1 := IR.out.below b1
      have hc1 := i1.cells
      simp only [] at hc1
      have hl1 := i1.los_at (n := n) (by simp only []; omega)
      simp only [] at hl1
      rw [← HX.out] at hl1
      have hf1 := i1.los.frozen
      have T1 := Lib.hid (TR.out.trans (Turn.of_below b1 _))
      have I1 := Lib.hid i1
      clear i1 b1 hcr hlo hfr
      cases hbt : bt t.order t.src x c
      · go_wp2
        go_roundw
        case rel => exact ⟨n / 2, c, l, rfl, by go_num, by omega, hcl, I1.out, LR.out, T1.out, by rw [ER.out, replayF_pos h0, ← HX.out, hbt]; rfl⟩
        case measure => simp [intOf]; omega
      · go_wp2_with fail
        go_region
        all_goals go_wp2
        all_goals go_roundw
        case rel =>
          have := I1.out.lose (w := w1) (Turn.refl _ _) n c
          exact ⟨n / 2, x, l.set n c, rfl, by go_num, by omega, hxl, this.1.drew, getD_set_lt LR.out hcl, (T1.out.trans (this.2.mono fun _ _ h => Or.inl h)).drew, by rw [ER.out, replayF_pos h0, ← HX.out, hbt]; rfl⟩
        case measure => simp [intOf]; omega

/-! ### Win -/
def anyWait (xs : List Src) : Bool := xs.any fun s => s.st == 0
def LT.play (t : LT) : LT :=
  if t.built = false then { t with win := (buildF t.order t.src 1 t.loser).1, loser := (buildF t.order t.src 1 t.loser).2, built := true }
  else if 0 ≤ t.opn then { t with win := (replayF t.order t.src ((t.src.length + t.opn.toNat) / 2) t.opn.toNat t.loser).1, loser := (replayF t.order t.src ((t.src.length + t.opn.toNat) / 2) t.opn.toNat t.loser).2 }
  else t
/-- What Win answers, and the tree behind it. -/
def LT.winF (t : LT) : (Int × Row × Int) × LT :=
  if anyWait t.src then ((0, Row.zero, 113), t)
  else if (at' t.src t.play.win).st = 2 then ((0, Row.zero, 114), { t.play with opn := -1 })
  else ((t.play.win, (at' t.src t.play.win).row, 0), { t.play with opn := t.play.win, src := t.src.set t.play.win Src.zero })
theorem LT.play_src (t : LT) : t.play.src = t.src := by unfold LT.play; split; rfl; split <;> rfl
theorem LT.play_order (t : LT) : t.play.order = t.order := by unfold LT.play; split; rfl; split <;> rfl
theorem LT.play_opn (t : LT) : t.play.opn = t.opn := by unfold LT.play; split; rfl; split <;> rfl
theorem replayF_lt (o : Int) (xs : List Src) (k : Nat) : ∀ n w l, w < k → (∀ m, l.getD m 0 < k) → (replayF o xs n w l).1 < k ∧ ∀ m, (replayF o xs n w l).2.getD m 0 < k := by
  intro n
  induction n using Nat.strongRecOn with
  | ind n ih =>
    intro w l hw hl
    by_cases h0 : n = 0
    · subst h0; rw [replayF_zero]; exact ⟨hw, hl⟩
    · rw [replayF_pos h0]
      split
      · exact ih (n / 2) (by omega) _ _ (hl n) (getD_set_lt hl hw)
      · exact ih (n / 2) (by omega) _ _ hw hl
theorem LT.play_win (t : LT) (hf : t.Fit) (hp : 1 ≤ t.src.length) (hl : t.loser.length = t.src.length) : t.play.win < t.src.length := by
  unfold LT.play
  split
  · obtain ⟨a, -⟩ := buildF_tells (o := t.order) _ 1 t.loser rfl (by omega) (by omega) hl
    simp only [a]
    exact W_lt (by omega) (by omega)
  · split
    · exact (replayF_lt _ _ _ _ _ _ (by have := hf.opn; omega) hf.los).1
    · exact hf.win
/-- Win's answer out of the tree behind the matches. -/
def LT.outF (q : LT) : (Int × Row × Int) × LT :=
  if (at' q.src q.win).st = 2 then ((0, Row.zero, 114), { q with opn := -1 })
  else ((q.win, (at' q.src q.win).row, 0), { q with opn := q.win, src := q.src.set q.win Src.zero })
theorem LT.winF_out (t : LT) (h : anyWait t.src = false) : t.winF = t.play.outF := by
  unfold LT.winF LT.outF
  rw [if_neg (by simp [h])]
  have e := t.play_src
  generalize t.play = q at *
  obtain ⟨o, s, l, w, b, p⟩ := q
  simp only [] at e
  subst e
  rfl
/-- The result, the tree and the frame behind a call of Win. -/
def WinPost (g bs bl : Nat) (w : World) (r : (Int × Row × Int) × LT) (e : Ending) (w' : World) : Prop :=
  e = .returned (.tuple #[.int .i64 r.1.1, .agg #[.int .i64 r.1.2.1.kind, .int .i64 r.1.2.1.time, .int .i64 r.1.2.1.seq, .int .i64 r.1.2.1.index, .int .i64 r.1.2.1.frm, .int .i64 r.1.2.1.to, .string r.1.2.1.body], .int .i64 r.1.2.2]) ∧
    IsLT w' g bs bl r.2 ∧ Turn (fun b => b = bl ∨ b = g ∨ b = bs) w w'
set_option maxRecDepth 100000 in
set_option maxHeartbeats 3200000 in
theorem win_any (g bs bl : Nat) (t : LT) (w : World) (h : IsLT w g bs bl t) (hf : t.Fit) :
    Calls Try.prog 12 #[.pointer (some ⟨g, 0, none⟩)] w (WinPost g bs bl w t.winF) := by
  have le := h.le
  have hc := h.cells
  have h0 := Lib.hid h
  have lbs := h.src.lt
  have lg := h.main.lt
  have HF := Lib.hid hf
  have hu66 := Try.underlying66
  have hu29 := Try.underlying29
  clear h hf
  generalize hres : t.winF = res
  have HR := Lib.hid hres
  clear hres
  go_enter Try.func12, Try.ntmps12
  go_wp2
  go_loopw [14] (fun i wr => ∃ k : Nat, i = .int .i64 k ∧ k ≤ t.src.length ∧ Hid (∀ j, j < k → (at' t.src j).st ≠ 0) ∧ Hid (Below w.heap.size w wr) ∧ Hid (w.heap.size < wr.heap.size) ∧
    Hid (RowAt wr w.heap.size 29 [.int .i64 0, .int .i64 0, .int .i64 0, .int .i64 0, .int .i64 0, .int .i64 0, .string ByteArray.empty])) (fun i _ => t.src.length - (intOf i).toNat)
  case atStart => exact ⟨0, rfl, by omega, fun j hj => by omega, (Below.refl _ _).alloc (Nat.le_refl _) _, by show _ < (World.alloc _ _).heap.size; simp, heap_alloc_new w _⟩
  case round =>
    obtain ⟨k, rfl, hk, HZ, HB, HS, HX⟩ := hrel
    have hcr := (h0.out.below HB.out).cells
    have hsz := HS.out
    clear hc
    by_cases hlt : k < t.src.length
    · obtain ⟨x0, x1, x2, x3, x4, x5, x6, x7⟩ := Src.at (h0.out.below HB.out).src (at'_some hlt)
      obtain ⟨s, hs⟩ : ∃ s, s = (at' t.src k).st := ⟨_, rfl⟩
      rw [← hs] at x0
      have HSt := Lib.hid hs
      clear hs
      by_cases e0 : s = 0
      · subst e0
        have hbx := HX.out.cell
        have hbf := HX.out.frozen
        go_wp2
        have hB' := HB.out
        have t1 : Turn (fun b => b = bl ∨ b = g ∨ b = bs) w (wset wr w.heap.size 0 [.int .i64 0, .int .i64 0, .int .i64 0, .int .i64 0, .int .i64 0, .int .i64 0, .string ByteArray.empty]) := Turn.wset (.inr (Nat.le_refl _)) _ _ (Turn.of_below hB' _)
        have r1 := RowAt.wset [.int .i64 0, .int .i64 0, .int .i64 0, .int .i64 0, .int .i64 0, .int .i64 0, .string ByteArray.empty] 0 HX.out
        have i1 : IsLT (wset wr w.heap.size 0 [.int .i64 0, .int .i64 0, .int .i64 0, .int .i64 0, .int .i64 0, .int .i64 0, .string ByteArray.empty]) g bs bl t := (h0.out.below hB').turn (S := (· = w.heap.size)) (Turn.wset (S := (· = w.heap.size)) (.inl rfl) _ _ (Turn.refl _ _)) (by have := h0.out.main.lt; omega) (by have := h0.out.src.lt; omega) (by have := h0.out.los.lt; omega)
        have hwt : anyWait t.src = true := by
          unfold anyWait
          rw [List.any_eq_true]
          exact ⟨at' t.src k, by rw [List.mem_iff_getElem?]; exact ⟨k, at'_some hlt⟩, by rw [← HSt.out]; rfl⟩
        have hrr : res = ((0, Row.zero, 113), t) := by rw [← HR.out]; unfold LT.winF; rw [if_pos hwt]
        rw [hrr]
        exact bodyPost_ret (results_tct Try.results12 _ rfl (r1.alloc _) Try.underlying29 rfl (by kernel_rfl)) rfl ⟨rfl, i1.turn (S := fun _ => False) ((Turn.refl _ _).alloc _) id id id, t1.alloc _⟩
      · go_wp2
        go_roundw
        case rel => 
          refine ⟨k + 1, by go_num, by omega, fun j hj => ?_, ?_, ?_, ?_⟩
          · rcases Nat.lt_succ_iff_lt_or_eq.1 hj with h' | rfl
            · exact HZ.out j h'
            · rw [← HSt.out]; exact e0
          · exact HB.out.alloc (by omega) _
          · show _ < (World.alloc _ _).heap.size; simp; omega
          · exact HX.out.alloc _
        case measure => simp [intOf]; omega
    · have hB' := HB.out
      have hnw : anyWait t.src = false := by
        unfold anyWait
        rw [List.any_eq_false]
        intro s hs
        obtain ⟨j, hj⟩ := List.mem_iff_getElem?.1 hs
        have hjl : j < t.src.length := (List.getElem?_eq_some_iff.1 hj).1
        have := HZ.out j (by omega)
        rw [at'_some hjl] at hj
        injection hj with hj
        rw [hj] at this
        simpa using this
      have Hrr := Lib.hid (show res = t.play.outF by rw [← HR.out]; exact t.winF_out hnw)
      have ir := Lib.hid (h0.out.below hB')
      have hpw := t.play_win HF.out h0.out.pos h0.out.len
      have hps := Lib.hid t.play_src
      have tr := Lib.hid (Turn.of_below hB' fun b => b = bl ∨ b = g ∨ b = bs)
      have hx := Lib.hid HX.out
      clear hnw HX HB HZ HR hB'
      have hfg := (ir.out).main.frozen
      go_upto_block 2 with fail
      go_cut [] (fun wc => Hid (IsLT wc g bs bl t.play) ∧ Hid (Turn (fun b => b = bl ∨ b = g ∨ b = bs) w wc) ∧ Hid (RowAt wc w.heap.size 29 [.int .i64 0, .int .i64 0, .int .i64 0, .int .i64 0, .int .i64 0, .int .i64 0, .string ByteArray.empty]))
      case first =>
        have hrow : ∀ (S : Nat → Prop) (w1 : World), Turn S wr w1 → ¬ S w.heap.size → RowAt w1 w.heap.size 29 [.int .i64 0, .int .i64 0, .int .i64 0, .int .i64 0, .int .i64 0, .int .i64 0, .string ByteArray.empty] := fun _ _ ht hn => hx.out.turn ht hn
        have hg' := h0.out.main.lt
        have hbl' := h0.out.los.lt
        have Hrow := Lib.hid hrow
        clear hrow
        cases hb : t.built
        · have HP := Lib.hid (show t.play = { t with win := (buildF t.order t.src 1 t.loser).1, loser := (buildF t.order t.src 1 t.loser).2, built := true } by unfold LT.play; rw [if_pos hb])
          have hpos := h0.out.pos
          rw [hb] at hcr
          go_wp2_with fail
          refine (build_any g bs bl t _ 1 t.loser _ rfl (by omega) (by omega) ir.out).mono ?_
          rintro e w1 ⟨rfl, i1, t1⟩
          have hc1 := i1.cells
          simp only [] at hc1
          have hf1 := i1.main.frozen
          have I1 := Lib.hid i1
          have T1 := Lib.hid t1
          clear i1 t1 hcr hfg
          go_wp2_with fail
          go_meet
          have a1 := I1.out.win_set (S := fun b => b = bl ∨ b = g) (T1.out.mono fun _ _ h => Or.inl h) (.inr rfl) (buildF t.order t.src 1 t.loser).1
          have a2 := a1.1.built_set a1.2 (.inr rfl) true
          exact ⟨by rw [HP.out]; exact a2.1, tr.out.trans (a2.2.mono fun b _ h => by rcases h with h | h; exact .inl h; exact .inr (.inl h)), Hrow.out _ _ a2.2 (by omega)⟩
        · rw [hb] at hcr
          have hop := HF.out.opn
          by_cases h1 : 0 ≤ t.opn
          · have HP := Lib.hid (show t.play = { t with win := (replayF t.order t.src ((t.src.length + t.opn.toNat) / 2) t.opn.toNat t.loser).1, loser := (replayF t.order t.src ((t.src.length + t.opn.toNat) / 2) t.opn.toNat t.loser).2 } by unfold LT.play; rw [if_neg (by simp [hb]), if_pos h1])
            go_wp2_with fail
            rw [show t.opn = ((t.opn.toNat : Nat) : Int) from by omega]
            refine (replay_any g bs bl t t.opn.toNat _ ir.out (by omega) HF.out.los).mono ?_
            rintro e w1 ⟨rfl, i1, t1⟩
            have I1 := Lib.hid i1
            have T1 := Lib.hid t1
            clear i1 t1 hcr hfg
            go_wp2_with fail
            go_meet
            exact ⟨by rw [HP.out]; exact I1.out, tr.out.trans (T1.out.mono fun b _ h => by rcases h with h | h; exact .inl h; exact .inr (.inl h)), Hrow.out _ _ T1.out (by omega)⟩
          · have HP := Lib.hid (show t.play = t by unfold LT.play; rw [if_neg (by simp [hb]), if_neg h1])
            go_wp2_with fail
            go_meet
            exact ⟨by rw [HP.out]; exact ir.out, tr.out, hx.out⟩
      case rest =>
        obtain ⟨IC, TC, XC⟩ := hcut
        rw [← hps.out] at hpw
        clear hfg hcr hps
        generalize t.play = q at *
        have hcq := IC.out.cells
        have hgb := IC.out.g_bs
        have hgb' := Ne.symm hgb
        have hfg := IC.out.main.frozen
        have hfs := IC.out.src.frozen
        have hfx := XC.out.frozen
        have hcx := XC.out.cell
        have hx1 : bs ≠ w.heap.size := by omega
        have hx2 : g ≠ w.heap.size := by omega
        have hx3 := IC.out.los.lt
        have hsz := XC.out.lt
        have lgc := IC.out.main.lt
        have lbc := IC.out.src.lt
        have lq := IC.out.le
        obtain ⟨x0, x1, x2, x3, x4, x5, x6, x7⟩ := Src.at IC.out.src (at'_some hpw)
        obtain ⟨s, hs⟩ : ∃ s, s = at' q.src q.win := ⟨_, rfl⟩
        rw [← hs] at x0 x1 x2 x3 x4 x5 x6 x7
        have HSq := Lib.hid hs
        clear hs
        obtain ⟨ss, sr⟩ := s
        obtain ⟨r0, r1, r2, r3, r4, r5, r6⟩ := sr
        simp only [] at x0 x1 x2 x3 x4 x5 x6 x7
        by_cases e2 : ss = 2
        · subst e2
          go_wp2
          have HO : res = ((0, Row.zero, 114), { q with opn := -1 }) := by rw [Hrr.out]; unfold LT.outF; rw [← HSq.out]; rfl
          rw [HO]
          clear x0 x1 x2 x3 x4 x5 x6 x7 hcq hfg hfs hfx hcx
          have a1 := IC.out.opn_set (S := (· = g)) (Turn.refl _ _) rfl (-1)
          have b1 : RowAt (wc.setCell ⟨g, 5, none⟩ (.int .i64 (-1))) w.heap.size 29 _ := XC.out.turn a1.2 (Ne.symm hx2)
          have b2 := RowAt.wset [.int .i64 0, .int .i64 0, .int .i64 0, .int .i64 0, .int .i64 0, .int .i64 0, .string ByteArray.empty] 0 b1
          have t2 := Turn.wset (S := (· = w.heap.size)) (a := wc.setCell ⟨g, 5, none⟩ (.int .i64 (-1))) (.inl rfl) [.int .i64 0, .int .i64 0, .int .i64 0, .int .i64 0, .int .i64 0, .int .i64 0, .string ByteArray.empty] 0 (Turn.refl _ _)
          have a2 := a1.1.turn t2 hx2 hx1 (by have := h0.out.los.lt; omega)
          exact bodyPost_ret (results_tct Try.results12 _ rfl b2 Try.underlying29 rfl (by kernel_rfl)) rfl
            ⟨rfl, a2, (TC.out.trans (a1.2.mono fun b _ h => .inr (.inl h))).then t2 (fun i hi h => by omega)⟩
        · go_wp2
          have HO : res = ((((q.win : Nat) : Int), (⟨r0, r1, r2, r3, r4, r5, r6⟩ : Row), (0 : Int)), { q with opn := q.win, src := q.src.set q.win Src.zero }) := by
            rw [Hrr.out]; unfold LT.outF; rw [← HSq.out, if_neg e2]
          have HOO := Lib.hid HO
          clear HO
          clear x0 x1 x2 x3 x4 x5 x6 x7 hcq hfg hfs hfx hcx
          have a1 := IC.out.opn_set (S := fun b => b = bs ∨ b = g) (Turn.refl _ _) (.inr rfl) (-1)
          have a2 := a1.1.put (n := q.win) (s := Src.zero) (Below.refl _ _) hpw (.inr rfl)
          have a3 := a2.1.opn_set (S := fun b => b = bs ∨ b = g) (a1.2.trans (a2.2.mono fun b _ h => .inl h)) (.inr rfl) (q.win : Int)
          simp only [] at a3
          generalize hWg : (World.alloc _ _) = Wg
          have t4 : Turn (fun b => b = bs ∨ b = g) wc Wg := by rw [← hWg]; exact a3.2.alloc _
          have i4 : IsLT Wg g bs bl { q with opn := q.win, src := q.src.set q.win Src.zero } := by rw [← hWg]; exact a3.1.turn (S := fun _ => False) ((Turn.refl _ _).alloc _) id id id
          have n4 : RowAt Wg wc.heap.size 29 [.int .i64 r0, .int .i64 r1, .int .i64 r2, .int .i64 r3, .int .i64 r4, .int .i64 r5, .string r6] := by
            rw [← hWg]
            have h := RowAt.new (World.setCell (wset (wc.setCell ⟨g, 5, none⟩ (.int .i64 (-1))) bs (q.win * 8) Src.zero.cells) ⟨g, 5, none⟩ (.int .i64 q.win)) 29 [.int .i64 r0, .int .i64 r1, .int .i64 r2, .int .i64 r3, .int .i64 r4, .int .i64 r5, .string r6]
            rw [show (World.setCell (wset (wc.setCell ⟨g, 5, none⟩ (.int .i64 (-1))) bs (q.win * 8) Src.zero.cells) ⟨g, 5, none⟩ (.int .i64 q.win)).heap.size = wc.heap.size by simp [wset, Src.zero, Src.cells, Row.zero, Row.cells]] at h
            exact h
          have x4 := XC.out.turn t4 (by omega)
          have hcn := n4.cell
          have hcx := x4.cell
          have hfx := x4.frozen
          have I4 := Lib.hid i4
          have T4 := Lib.hid t4
          have X4 := Lib.hid x4
          have ne4 : w.heap.size ≠ wc.heap.size := by omega
          clear a1 a2 a3 hWg t4 i4 x4 n4
          have lbl := h0.out.los.lt
          go_region
          all_goals go_wp2
          have b2 := RowAt.wset [.int .i64 r0, .int .i64 r1, .int .i64 r2, .int .i64 r3, .int .i64 r4, .int .i64 r5, .string r6] 0 X4.out
          have t2 := Turn.wset (S := (· = w.heap.size)) (a := Wg) (.inl rfl) [.int .i64 r0, .int .i64 r1, .int .i64 r2, .int .i64 r3, .int .i64 r4, .int .i64 r5, .string r6] 0 (Turn.refl _ _)
          have a2 := I4.out.turn t2 hx2 hx1 (by omega)
          rw [HOO.out]
          exact bodyPost_ret (results_tct Try.results12 _ rfl b2.drew Try.underlying29 rfl (by kernel_rfl)) rfl
            ⟨rfl, a2.drew, ((TC.out.trans (T4.out.mono fun b _ h => by rcases h with h | h; exact .inr (.inr h); exact .inr (.inl h))).then t2 (fun i hi h => by omega)).drew⟩
end Go.Proofs.Ytgcfpepaapdjoaa
