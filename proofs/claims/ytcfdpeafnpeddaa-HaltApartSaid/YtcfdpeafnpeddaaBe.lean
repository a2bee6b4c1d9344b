/- A beat: its contract. -/
import Derived.Test.YtcfdpeafnpeddaaBT
namespace Go.Proofs.Ytcfdpeafnpeddaa
set_option linter.unusedVariables false
set_option linter.unusedSimpArgs false
open Go.Conc Go.RowKit Go.MuLone

/-- Which stop's pointer is it, and one more; 0: nil. -/
def rank (x : Pl) (n : Nat) (v : Value) : Nat :=
  match v with
  | .pointer (some a) => match (List.range n).find? (fun i => x.B i == a.block) with | some i => i + 1 | none => 0
  | _ => 0
theorem par_neg (x : Pl) {p : Int} (h : p < 0) : x.par p = .pointer none := by unfold Pl.par; rw [if_pos h]
theorem par_nat (x : Pl) (q : Nat) : x.par q = .pointer (some ⟨x.B q, 0, none⟩) := by unfold Pl.par; rw [if_neg (by omega)]; rfl
theorem rank_par {w : World} {x : Pl} {l : Int} {st : List St} (h : HT w x l st) {p : Int} (hp : -1 ≤ p) (hl : p < st.length) : rank x st.length (x.par p) = (p + 1).toNat := by
  by_cases hn : p < 0
  · rw [par_neg x hn]
    simp only [rank]
    omega
  · obtain ⟨q, rfl⟩ : ∃ q : Nat, p = q := ⟨p.toNat, by omega⟩
    rw [par_nat]
    simp only [rank]
    have hf : (List.range st.length).find? (fun i => x.B i == x.B q) = some q := by
      rw [List.find?_range_eq_some]
      refine ⟨by simp, List.mem_range.2 (by omega), fun j hj => ?_⟩
      have : x.B j ≠ x.B q := fun e => by have := h.bInj j q (by omega) (by omega) e; omega
      simpa using this
    rw [hf]
    simp
set_option maxRecDepth 100000 in
set_option maxHeartbeats 3200000 in
theorem beat_any (x : Pl) (st : List St) (i : Nat) (w : World) (h : HT w x 0 st) (hi : i < st.length) (hI : SInv st) :
    Calls Try.prog 14 #[.pointer (some ⟨x.B i, 0, none⟩)] w (MPost x st.length w (.bool (beatF st i).1) (beatF st i).2) := by
  have HH := Lib.hid h
  have hn := (h.node i hi).cell
  have hn1 := ((h.lock 1).node i hi).cell
  have ht1 := (h.lock 1).tree.cell
  have HL := Lib.hid ((h.lock 1).live hi)
  have HI := Lib.hid hI
  have hres : beatF st i = if (ns st i).cause = 0 then if 0 ≤ spentG st (i + 1) i (-1) then (false, endS st (spentG st (i + 1) i (-1)).toNat 2) else (true, decG (i + 1) i st) else (false, st) := rfl
  generalize beatF st i = res at hres ⊢
  have HR := Lib.hid hres
  clear hres hI h
  by_cases h0 : (ns st i).cause = 0
  · have H0 := Lib.hid h0
    rw [decide_eq_true h0] at HL
    clear h0
    go_enter_defers Try.func14, Try.ntmps14
    go_wp2_with (go_at_call 23; refine (lock_free muLib ⟨x.T, 0, none⟩ _ (HH.out.tree.cell 0) (HH.out.tree.frozen 0)).mono ?_; rintro e w' ⟨rfl, rfl⟩)
    refine HL.out.mono ?_
    rintro e w' ⟨rfl, rfl⟩
    have W1 := Lib.hid (HH.out.lock 1)
    have WT := Lib.hid (turn_lock (x := x) (n := st.length) (w := w) (.int .i32 1))
    generalize w.setCell ⟨x.T, 0, none⟩ (.int .i32 1) = W at W1 WT hn1 ht1 ⊢
    clear hn hn1 ht1
    go_wp2
    go_loopw [4, 3] (fun v4 v3 wr => ∃ (p s : Int) (m : Nat), v4 = x.par p ∧ v3 = x.par s ∧ -1 ≤ p ∧ p < st.length ∧ p < m ∧ -1 ≤ s ∧ s < st.length ∧ Hid (spentG st m p s = spentG st (i + 1) i (-1)) ∧ wr = W) (fun v4 _ _ => rank x st.length v4)
    case atStart => exact ⟨i, -1, i + 1, (par_nat x i).symm, (par_neg x (by omega)).symm, by omega, by omega, by omega, by omega, by omega, rfl, rfl⟩
    case round =>
      obtain ⟨p, s, m, rfl, rfl, hp1, hp2, hp3, hs1, hs2, HS, rfl⟩ := hrel
      by_cases hpn : p < 0
      · rw [par_neg x hpn]
        have hs : s = spentG st (i + 1) i (-1) := by rw [← HS.out, spentG_neg _ _ _ _ hpn]
        by_cases hsn : s < 0
        · rw [par_neg x hsn]
          have hnd := Lib.hid (show ¬ 0 ≤ spentG st (i + 1) i (-1) by omega)
          clear hs HS
          go_wp2
          go_loopw [5] (fun v5 wr => ∃ (p : Int) (m : Nat) (st' : List St), v5 = x.par p ∧ -1 ≤ p ∧ p < st.length ∧ p < m ∧ st'.length = st.length ∧ Hid (HT wr x 1 st') ∧ Hid (Turn (x.own st.length) w wr) ∧ Hid (decG m p st' = decG (i + 1) i st) ∧ Hid (∀ k : Nat, (k : Int) ≤ p → ns st' k = ns st k)) (fun v5 _ => rank x st.length v5)
          case atStart => exact ⟨i, i + 1, st, (par_nat x i).symm, by omega, by omega, by omega, rfl, W1.out, WT.out, rfl, fun _ _ => rfl⟩
          case round =>
            obtain ⟨p', m', st', rfl, q1, q2, q3, q4, QH, QT, QD, QS⟩ := hrel
            by_cases hpn' : p' < 0
            · rw [par_neg x hpn']
              go_wp2
              refine leaves_cons (f := 24) (args := #[.pointer (some ⟨x.T, 0, none⟩)]) (by simp) (by simp [go_sem]) ?_
              refine (unlock_deferred muLib ⟨x.T, 0, none⟩ .returning _ (QH.out.tree.cell 0) (QH.out.tree.frozen 0)).mono ?_
              rintro e u' w'' ⟨rfl, rfl, rfl⟩
              rw [HR.out, if_pos H0.out, if_neg (by have := hnd.out; omega)]
              have e : st' = decG (i + 1) i st := by rw [← QD.out, decG_neg _ _ _ hpn']
              rw [e] at QH
              exact ⟨_, results_tmp rfl _ _ _, rfl, QH.out.lock 0, QT.out.trans (turn_lock _)⟩
            · obtain ⟨q, rfl⟩ : ∃ q : Nat, p' = q := ⟨p'.toNat, by omega⟩
              obtain ⟨m', rfl⟩ : ∃ k, m' = k + 1 := ⟨m' - 1, by omega⟩
              have hql : q < st'.length := by omega
              have esame := QS.out q (by omega)
              have hlf := HI.out.lefts q (by omega)
              have hcell := (QH.out.node q hql).cell
              have hfr := (QH.out.node q hql).frozen
              rw [esame] at hcell
              have hpq := HI.out.wf.par q (by omega)
              have hpz : -1 ≤ (ns st q).par := by
                by_cases hq0 : 0 < q
                · have := HI.out.wf.zero q (by omega) hq0; omega
                · have : q = 0 := by omega
                  subst this; rw [HI.out.wf.root]; omega
              have r0 := (QH.out.node q hql).set 3 (.int .i64 ((ns st q).left - 1))
              have hu := QH.out.upd hql { ns st' q with left := (ns st' q).left - 1 } rfl ((Turn.setCell (S := fun b => b = x.B q ∨ b = x.C q) (p := ⟨x.B q, 3, none⟩) (Turn.refl _ _) (.inl (.inl rfl)) (.int .i64 ((ns st q).left - 1)))) (r0.congr (by rw [esame]; rfl))
                (by rw [Below.heap_setCell _ _ _ _ (chan_row (QH.out.chan q hql) (QH.out.node q hql))]; exact QH.out.chan q hql)
              have HU := Lib.hid hu
              have hrk : rank x st.length (x.par (ns st q).par) < rank x st.length (x.par q) := by
                have e1 := rank_par QH.out (p := (ns st q).par) hpz (by omega)
                have e2 := rank_par QH.out (p := (q : Int)) (by omega) (by omega)
                rw [q4] at e1 e2
                rw [e1, e2]
                omega
              have HRK := Lib.hid hrk
              have hd1 := Lib.hid (show decG m' (ns st q).par (st'.set q { ns st' q with left := (ns st' q).left - 1 }) = decG (i + 1) i st by
                have := QD.out
                rw [decG, if_neg (by omega), show ((q : Int)).toNat = q from by omega] at this
                rw [← this, esame])
              have hT := Lib.hid (QT.out.trans (Turn.setCell (p := ⟨x.B q, 3, none⟩) (Turn.refl (x.own st.length) _) (.inl (.inr ⟨q, by omega, .inl rfl⟩)) (.int .i64 ((ns st q).left - 1))))
              have hs9 : Hid (∀ k : Nat, (k : Int) ≤ (ns st q).par → ns (st'.set q { ns st' q with left := (ns st' q).left - 1 }) k = ns st k) := by
                intro k hk
                rw [ns_set _ _ _ _ hql, if_neg (by omega)]
                exact QS.out k (by omega)
              have hlen : (st'.set q { ns st' q with left := (ns st' q).left - 1 }).length = st.length := by rw [List.length_set]; exact q4
              generalize st'.set q { ns st' q with left := (ns st' q).left - 1 } = st2 at HU hd1 hs9 hlen
              clear esame r0 hu hrk
              obtain ⟨lf, hlfe⟩ : ∃ lf, lf = (ns st q).left := ⟨_, rfl⟩
              simp only [Pl.node, stopC] at hcell
              rw [← hlfe] at hcell hlf hT HU
              obtain ⟨pp, hpp⟩ : ∃ pp, pp = (ns st q).par := ⟨_, rfl⟩
              rw [← hpp] at hcell hpq hpz HRK hd1 hs9
              have HPQ := Lib.hid hpq
              rw [par_nat] at HRK ⊢
              clear hlfe hpp
              go_wp2
              go_roundw
              case rel => exact ⟨pp, m', st2, rfl, hpz, by omega, by omega, hlen, HU.out, hT.out, hd1.out, hs9⟩
              case measure => exact HRK.out
        · obtain ⟨r, rfl⟩ : ∃ r : Nat, s = r := ⟨s.toNat, by omega⟩
          rw [par_nat]
          obtain ⟨r', e1, hrl, hr0, hru⟩ := spent_live HI.out.wf HI.out.con hi H0.out (by omega)
          have e2 : r' = r := by omega
          subst e2
          have hnn := Lib.hid (show 0 ≤ spentG st (i + 1) i (-1) by omega)
          have hE := Lib.hid (end_any x 1 _ st r' 2 wr (Nat.le_refl _) HI.out.le W1.out HI.out.wf hrl (HI.out.con.cons r') (by decide))
          have he1 := Lib.hid e1
          clear e1 hs HS hr0
          go_wp2_with fail
          refine hE.out.mono ?_
          rintro e w2 ⟨rfl, h2, t2⟩
          have H2 := Lib.hid h2
          have T2 := Lib.hid t2
          clear h2 t2
          go_wp2
          refine leaves_cons (f := 24) (args := #[.pointer (some ⟨x.T, 0, none⟩)]) (by simp) (by simp [go_sem]) ?_
          refine (unlock_deferred muLib ⟨x.T, 0, none⟩ .returning _ (H2.out.tree.cell 0) (H2.out.tree.frozen 0)).mono ?_
          rintro e u' w'' ⟨rfl, rfl, rfl⟩
          rw [HR.out, if_pos H0.out, if_pos hnn.out, he1.out]
          exact ⟨_, results_tmp rfl _ _ _, rfl, H2.out.lock 0, WT.out.trans (T2.out.trans (turn_lock _))⟩
      · obtain ⟨q, rfl⟩ : ∃ q : Nat, p = q := ⟨p.toNat, by omega⟩
        obtain ⟨m, rfl⟩ : ∃ k, m = k + 1 := ⟨m - 1, by omega⟩
        have hql : q < st.length := by omega
        have hcell := (W1.out.node q hql).cell
        have hpq := HI.out.wf.par q hql
        have hpz : -1 ≤ (ns st q).par := by
          by_cases hq0 : 0 < q
          · have := HI.out.wf.zero q hql hq0; omega
          · have : q = 0 := by omega
            subst this; rw [HI.out.wf.root]; omega
        have hrk : rank x st.length (x.par (ns st q).par) < rank x st.length (x.par q) := by
          rw [rank_par W1.out (p := (ns st q).par) hpz (by omega), rank_par W1.out (p := (q : Int)) (by omega) (by omega)]
          omega
        have HRK := Lib.hid hrk
        have hsp := HS.out
        rw [spentG, if_neg (by omega), show ((q : Int)).toNat = q from by omega] at hsp
        have HSP := Lib.hid hsp
        clear hsp hrk HS
        obtain ⟨lf, hlfe⟩ : ∃ lf, lf = (ns st q).left := ⟨_, rfl⟩
        simp only [Pl.node, stopC] at hcell
        rw [← hlfe] at hcell HSP
        obtain ⟨pp, hpp⟩ : ∃ pp, pp = (ns st q).par := ⟨_, rfl⟩
        rw [← hpp] at hcell hpq hpz HRK HSP
        rw [par_nat] at HRK ⊢
        clear hlfe hpp
        by_cases hl0 : lf = 0
        · subst hl0
          rw [if_pos rfl] at HSP
          go_wp2
          go_roundw
          case rel => exact ⟨pp, q, m, rfl, (par_nat x q).symm, hpz, by omega, by omega, by omega, by omega, HSP.out, trivial⟩
          case measure => exact HRK.out
        · rw [if_neg hl0] at HSP
          have hlf : (lf == 0) = false := by simpa using hl0
          go_wp2
          go_roundw
          case rel => exact ⟨pp, s, m, rfl, rfl, hpz, by omega, by omega, hs1, hs2, HSP.out, trivial⟩
          case measure => exact HRK.out
  · have H0 := Lib.hid h0
    rw [decide_eq_false h0] at HL
    clear h0
    go_enter_defers Try.func14, Try.ntmps14
    go_wp2_with (go_at_call 23; refine (lock_free muLib ⟨x.T, 0, none⟩ _ (HH.out.tree.cell 0) (HH.out.tree.frozen 0)).mono ?_; rintro e w' ⟨rfl, rfl⟩)
    refine HL.out.mono ?_
    rintro e w' ⟨rfl, rfl⟩
    go_wp2
    refine leaves_cons (f := 24) (args := #[.pointer (some ⟨x.T, 0, none⟩)]) (by simp) (by simp [go_sem]) ?_
    refine (unlock_deferred muLib ⟨x.T, 0, none⟩ .returning _ (ht1 0) ((HH.out.lock 1).tree.frozen 0)).mono ?_
    rintro e u' w'' ⟨rfl, rfl, rfl⟩
    rw [HR.out, if_neg H0.out]
    exact ⟨_, results_tmp rfl _ _ _, rfl, (HH.out.lock 1).lock 0, (turn_lock _).trans (turn_lock _)⟩
end Go.Proofs.Ytcfdpeafnpeddaa
