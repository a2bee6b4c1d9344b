/- The small methods of a stop: contracts. -/
import Derived.Test.YtcfdpeafnpeddaaE
namespace Go.Proofs.Ytcfdpeafnpeddaa
set_option linter.unusedVariables false
set_option linter.unusedSimpArgs false
open Go.Conc Go.RowKit Go.MuLone

def MPost (x : Pl) (n : Nat) (w : World) (r : Value) (st : List St) (e : Ending) (w' : World) : Prop := e = .returned r ∧ HT w' x 0 st ∧ Turn (x.own n) w w'
set_option maxRecDepth 100000 in
set_option maxHeartbeats 1600000 in
theorem left_any (x : Pl) (st : List St) (i : Nat) (w : World) (h : HT w x 0 st) (hi : i < st.length) :
    Calls Try.prog 12 #[.pointer (some ⟨x.B i, 0, none⟩)] w (MPost x st.length w (.int .i64 (ns st i).left) st) := by
  have HH := Lib.hid h
  have hn := (h.node i hi).cell
  have hn1 := ((h.lock 1).node i hi).cell
  have ht1 := (h.lock 1).tree.cell
  go_enter_defers Try.func12, Try.ntmps12
  go_wp2_with (go_at_call 23; refine (lock_free muLib ⟨x.T, 0, none⟩ _ (HH.out.tree.cell 0) (HH.out.tree.frozen 0)).mono ?_; rintro e w' ⟨rfl, rfl⟩)
  refine leaves_cons (f := 24) (args := #[.pointer (some ⟨x.T, 0, none⟩)]) (by simp) (by simp [go_sem]) ?_
  refine (unlock_deferred muLib ⟨x.T, 0, none⟩ .returning _ (ht1 0) ((HH.out.lock 1).tree.frozen 0)).mono ?_
  rintro e u' w'' ⟨rfl, rfl, rfl⟩
  exact ⟨_, results_tmp rfl _ _ _, rfl, (HH.out.lock 1).lock 0, (turn_lock _).trans (turn_lock _)⟩
set_option maxRecDepth 100000 in
set_option maxHeartbeats 1600000 in
theorem cause_any (x : Pl) (st : List St) (i : Nat) (w : World) (h : HT w x 0 st) (hi : i < st.length) :
    Calls Try.prog 15 #[.pointer (some ⟨x.B i, 0, none⟩)] w (MPost x st.length w (.int .i64 (ns st i).cause) st) := by
  have HH := Lib.hid h
  have hn := (h.node i hi).cell
  have hn1 := ((h.lock 1).node i hi).cell
  have ht1 := (h.lock 1).tree.cell
  go_enter_defers Try.func15, Try.ntmps15
  go_wp2_with (go_at_call 23; refine (lock_free muLib ⟨x.T, 0, none⟩ _ (HH.out.tree.cell 0) (HH.out.tree.frozen 0)).mono ?_; rintro e w' ⟨rfl, rfl⟩)
  refine leaves_cons (f := 24) (args := #[.pointer (some ⟨x.T, 0, none⟩)]) (by simp) (by simp [go_sem]) ?_
  refine (unlock_deferred muLib ⟨x.T, 0, none⟩ .returning _ (ht1 0) ((HH.out.lock 1).tree.frozen 0)).mono ?_
  rintro e u' w'' ⟨rfl, rfl, rfl⟩
  exact ⟨_, results_tmp rfl _ _ _, rfl, (HH.out.lock 1).lock 0, (turn_lock _).trans (turn_lock _)⟩
set_option maxRecDepth 100000 in
set_option maxHeartbeats 1600000 in
theorem stopped_any (x : Pl) (st : List St) (i : Nat) (w : World) (h : HT w x 0 st) (hi : i < st.length) :
    Calls Try.prog 13 #[.pointer (some ⟨x.B i, 0, none⟩)] w (MPost x st.length w (.bool (!decide ((ns st i).cause = 0))) st) := by
  have HH := Lib.hid h
  have hn := (h.node i hi).cell
  have hn1 := ((h.lock 1).node i hi).cell
  have ht1 := (h.lock 1).tree.cell
  have hnot : ∀ (x : Bool) (w : World), (Op.unary .not (.bool x)).run Try.prog w = .ok (.bool (!x)) w := fun _ _ => rfl
  go_enter_defers Try.func13, Try.ntmps13
  go_wp2_with (go_at_call 23; refine (lock_free muLib ⟨x.T, 0, none⟩ _ (HH.out.tree.cell 0) (HH.out.tree.frozen 0)).mono ?_; rintro e w' ⟨rfl, rfl⟩)
  refine ((HH.out.lock 1).live hi).mono ?_
  rintro e w' ⟨rfl, rfl⟩
  go_wp2
  refine leaves_cons (f := 24) (args := #[.pointer (some ⟨x.T, 0, none⟩)]) (by simp) (by simp [go_sem]) ?_
  refine (unlock_deferred muLib ⟨x.T, 0, none⟩ .returning _ (ht1 0) ((HH.out.lock 1).tree.frozen 0)).mono ?_
  rintro e u' w'' ⟨rfl, rfl, rfl⟩
  exact ⟨_, results_tmp rfl _ _ _, rfl, (HH.out.lock 1).lock 0, (turn_lock _).trans (turn_lock _)⟩
noncomputable def cancelF (st : List St) (i : Nat) : Bool × List St := if (ns st i).cause = 0 then (true, endS st i 1) else (false, st)
set_option maxRecDepth 100000 in
set_option maxHeartbeats 1600000 in
theorem cancel_any (x : Pl) (st : List St) (i : Nat) (w : World) (h : HT w x 0 st) (hi : i < st.length) (hm : st.length ≤ 256) (hw : Wf st) (hc : Con st) :
    Calls Try.prog 16 #[.pointer (some ⟨x.B i, 0, none⟩)] w (MPost x st.length w (.bool (cancelF st i).1) (cancelF st i).2) := by
  have HH := Lib.hid h
  have hn := (h.node i hi).cell
  have hn1 := ((h.lock 1).node i hi).cell
  have ht1 := (h.lock 1).tree.cell
  have HL := Lib.hid ((h.lock 1).live hi)
  have HE := Lib.hid (end_any x 1 _ st i 1 (w.setCell ⟨x.T, 0, none⟩ (.int .i32 1)) (Nat.le_refl _) hm (h.lock 1) hw hi (hc.cons i) (by decide))
  have hres : cancelF st i = if (ns st i).cause = 0 then (true, endS st i 1) else (false, st) := rfl
  generalize cancelF st i = res at hres ⊢
  have HR := Lib.hid hres
  clear hres hw hc h
  by_cases h0 : (ns st i).cause = 0
  · have H0 := Lib.hid h0
    rw [decide_eq_true h0] at HL
    clear h0
    go_enter_defers Try.func16, Try.ntmps16
    go_wp2_with (go_at_call 23; refine (lock_free muLib ⟨x.T, 0, none⟩ _ (HH.out.tree.cell 0) (HH.out.tree.frozen 0)).mono ?_; rintro e w' ⟨rfl, rfl⟩)
    refine HL.out.mono ?_
    rintro e w' ⟨rfl, rfl⟩
    go_wp2_with fail
    refine HE.out.mono ?_
    rintro e w2 ⟨rfl, h2, t2⟩
    have H2 := Lib.hid h2
    have T2 := Lib.hid t2
    clear h2 t2
    go_wp2
    refine leaves_cons (f := 24) (args := #[.pointer (some ⟨x.T, 0, none⟩)]) (by simp) (by simp [go_sem]) ?_
    refine (unlock_deferred muLib ⟨x.T, 0, none⟩ .returning _ (H2.out.tree.cell 0) (H2.out.tree.frozen 0)).mono ?_
    rintro e u' w'' ⟨rfl, rfl, rfl⟩
    rw [HR.out, if_pos H0.out]
    exact ⟨_, results_tmp rfl _ _ _, rfl, H2.out.lock 0, (turn_lock _).trans (T2.out.trans (turn_lock _))⟩
  · have H0 := Lib.hid h0
    rw [decide_eq_false h0] at HL
    clear h0
    go_enter_defers Try.func16, Try.ntmps16
    go_wp2_with (go_at_call 23; refine (lock_free muLib ⟨x.T, 0, none⟩ _ (HH.out.tree.cell 0) (HH.out.tree.frozen 0)).mono ?_; rintro e w' ⟨rfl, rfl⟩)
    refine HL.out.mono ?_
    rintro e w' ⟨rfl, rfl⟩
    go_wp2
    refine leaves_cons (f := 24) (args := #[.pointer (some ⟨x.T, 0, none⟩)]) (by simp) (by simp [go_sem]) ?_
    refine (unlock_deferred muLib ⟨x.T, 0, none⟩ .returning _ (ht1 0) ((HH.out.lock 1).tree.frozen 0)).mono ?_
    rintro e u' w'' ⟨rfl, rfl, rfl⟩
    rw [HR.out, if_neg H0.out]
    exact ⟨_, results_tmp rfl _ _ _, rfl, (HH.out.lock 1).lock 0, (turn_lock _).trans (turn_lock _)⟩
end Go.Proofs.Ytcfdpeafnpeddaa
