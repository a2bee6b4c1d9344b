/- The document's tree of stops: its memory and its methods. -/
import Derived.Test.YtcfdpeafnpeddaaMany
import Derived.StillTailTactics
namespace Go.Proofs.Ytcfdpeafnpeddaa
set_option linter.unusedVariables false
set_option linter.unusedSimpArgs false
open Go.Conc Go.RowKit Go.MuLone

theorem st_len (s : St) : s.cells.length = 3 := rfl
/-- The document's tree: its head at r, its rows in block g. -/
structure RT (w : World) (r g cap base : Nat) (st : List St) : Prop where
  head : RowAt w r 40 [.slice (some ⟨g, 0, none⟩) st.length cap]
  own : Own w base 48 3 St.cells (.slice (some ⟨g, 0, none⟩) st.length cap) st
theorem RT.row {w : World} {r g cap base : Nat} {st : List St} (h : RT w r g cap base st) : ∃ rest, RowAt w g 48 (st.flatMap St.cells ++ rest) := by
  rcases h.own.cases with ⟨e, -⟩ | ⟨g', cap', rest, e, -, -, -, hr⟩
  · simp at e
  · injection e with e1 e2 e3
    injection e1 with e1
    injection e1 with e1
    subst e1
    exact ⟨rest, hr⟩
theorem RT.ne {w : World} {r g cap base : Nat} {st : List St} (h : RT w r g cap base st) : r ≠ g := by
  obtain ⟨rest, hr⟩ := h.row
  exact h.head.ne hr (by decide)
theorem RT.ltg {w : World} {r g cap base : Nat} {st : List St} (h : RT w r g cap base st) : g < w.heap.size := (h.own.base g rfl).2
theorem RT.at {w : World} {r g cap base : Nat} {st : List St} (h : RT w r g cap base st) {i : Nat} (hi : i < st.length) :
    w.cell? ⟨g, i * 3, none⟩ = some (.int .i64 (ns st i).par) ∧ w.cell? ⟨g, i * 3 + 1, none⟩ = some (.int .i64 (ns st i).left) ∧ w.cell? ⟨g, i * 3 + 2, none⟩ = some (.int .i64 (ns st i).cause) := by
  obtain ⟨rest, hr⟩ := h.row
  have key : ∀ j, j < 3 → w.cell? ⟨g, i * 3 + j, none⟩ = (ns st i).cells[j]? := fun j hj => by
    rw [hr.cell, List.getElem?_append_left (by rw [flat_length st_len]; omega), flat_at st_len st i j hj (ns_some hi)]
  exact ⟨key 0 (by omega), key 1 (by omega), key 2 (by omega)⟩
theorem RT.turn {S : Nat → Prop} {w w' : World} {r g cap base : Nat} {st : List St} (h : RT w r g cap base st) (ht : Turn S w w') (h1 : ¬ S r) (h2 : ¬ S g) : RT w' r g cap base st :=
  ⟨h.head.turn ht h1, h.own.turn ht (fun k hk => by injection hk with hk; subst hk; exact h2)⟩
theorem RT.below {w w' : World} {r g cap base : Nat} {st : List St} (h : RT w r g cap base st) (hb : Below w.heap.size w w') : RT w' r g cap base st := h.turn (Turn.of_below hb fun _ => False) id id
theorem RT.drewN {w : World} {r g cap base : Nat} {st : List St} (h : RT w r g cap base st) (n : Nat) : RT (w.drewN n) r g cap base st := ⟨h.head, h.own⟩
theorem RT.frozen {w : World} {r g cap base : Nat} {st : List St} (h : RT w r g cap base st) (j : Nat) : w.frozen? ⟨g, j, none⟩ = false := by
  obtain ⟨rest, hr⟩ := h.row
  exact hr.frozen j
theorem flat_set1 (st : List St) (i j : Nat) (hi : i < st.length) (hj : j < 3) (u : Value) (s : St) (hs : s.cells = (ns st i).cells.set j u) :
    (st.flatMap St.cells).set (i * 3 + j) u = (st.set i s).flatMap St.cells := by
  rw [← flat_set st_len st i s hi]
  apply List.ext_getElem?
  intro k
  rw [setRun_at, List.getElem?_set, flat_length st_len, st_len]
  by_cases h : i * 3 ≤ k ∧ k < i * 3 + 3 ∧ k < st.length * 3
  · rw [if_pos h, hs, List.getElem?_set]
    have e := flat_at st_len st i (k - i * 3) (by omega) (ns_some hi)
    rw [show i * 3 + (k - i * 3) = k by omega] at e
    rw [e]
    by_cases h2 : i * 3 + j = k
    · rw [if_pos h2, if_pos (show j = k - i * 3 by omega), if_pos (by omega), st_len, if_pos (by omega)]
    · rw [if_neg h2, if_neg (show ¬ j = k - i * 3 by omega)]
  · rw [if_neg h, if_neg (by omega)]
theorem RT.set {w : World} {r g cap base : Nat} {st : List St} (h : RT w r g cap base st) {i j : Nat} (hi : i < st.length) (hj : j < 3) {u : Value} {s : St} (hs : s.cells = (ns st i).cells.set j u) :
    RT (w.setCell ⟨g, i * 3 + j, none⟩ u) r g cap base (st.set i s) := by
  refine ⟨by rw [List.length_set]; exact h.head.far h.ne u, ?_⟩
  obtain ⟨h1, h2⟩ := h.own
  rw [List.length_set]
  refine ⟨by rw [flat_length st_len], ?_⟩
  rcases h2 with ⟨e, -⟩ | ⟨g', cap', cur, e, hb, hh, hl, hm, hc, ht⟩
  · simp at e
  · injection e with e1 e2 e3
    injection e1 with e1
    injection e1 with e1
    subst e1
    subst e3
    have hr : RowAt w g 48 cur.toList := by unfold RowAt; simpa using hh
    have hr2 := hr.set (i * 3 + j) u
    refine .inr ⟨g, cap, (cur.toList.set (i * 3 + j) u).toArray, by rw [List.length_set], hb, hr2, by rw [List.length_set]; exact hl, hm, by simpa using hc, ?_⟩
    rw [List.length_set, ← flat_set1 st i j hi hj u s hs, ← ht]
    simp [List.take_set]
theorem RT.head_cell {w : World} {r g cap base : Nat} {st : List St} (h : RT w r g cap base st) : w.cell? ⟨r, 0, none⟩ = some (.slice (some ⟨g, 0, none⟩) st.length cap) := h.head.cell 0
theorem RT.caps {w : World} {r g cap base : Nat} {st : List St} (h : RT w r g cap base st) : st.length ≤ cap ∧ cap ≤ maxLen := by
  rcases h.own.cases with ⟨e, -⟩ | ⟨g', cap', rest, e, -, h1, h2, -⟩
  · simp at e
  · injection e with e1 e2 e3
    subst e3
    exact ⟨h1, h2⟩
set_option maxRecDepth 100000 in
set_option maxHeartbeats 1600000 in
theorem dnew_no (r : Nat) (n : Int) (w : World) (hn : n < 0 ∨ (¬ n < 0 ∧ 1099511627776 < n)) :
    Calls Try.prog 19 #[.pointer (some ⟨r, 0, none⟩), .int .i64 n] w fun e w' => e = .returned (.int .i64 10) ∧ w' = w := by
  go_enter Try.func19, Try.ntmps19
  rcases hn with h1 | ⟨h1, h2⟩
  · go_wp2
    go_ret
    exact ⟨rfl, rfl⟩
  · go_wp2
    go_ret
    exact ⟨rfl, rfl⟩
set_option maxRecDepth 100000 in
set_option maxHeartbeats 1600000 in
theorem dnew_yes (r : Nat) (n : Int) (w : World) (h : RowAt w r 40 [.slice none 0 0]) (h1 : ¬ n < 0) (h2 : ¬ 1099511627776 < n) (base : Nat) (hb : base ≤ w.heap.size) :
    Calls Try.prog 19 #[.pointer (some ⟨r, 0, none⟩), .int .i64 n] w fun e w' => e = .returned (.int .i64 0) ∧ RT w' r w.heap.size 1 base [⟨-1, n, 0⟩] ∧ Turn (fun b => b = r) w w' := by
  have hc := h.cell
  have hf := h.frozen
  have hlt := h.lt
  have H0 := Lib.hid h
  clear h
  go_enter Try.func19, Try.ntmps19
  go_wp2
  go_ret
  refine ⟨rfl, ⟨?_, ?_⟩, ?_⟩
  · exact (H0.out.set 0 _).alloc _
  · exact (show World.ownsRow _ base 48 3 (.slice (some ⟨w.heap.size, 0, none⟩) 1 1) 1 (St.cells ⟨-1, n, 0⟩) from (RowAt.new' (w.setCell ⟨r, 0, none⟩ (.slice (some ⟨w.heap.size, 0, none⟩) 1 1)) w.heap.size 48 (St.cells ⟨-1, n, 0⟩) (by simp [World.setCell])).own hb rfl (by unfold maxLen; omega))
  · exact (Turn.setCell (S := fun b => b = r) (p := ⟨r, 0, none⟩) (Turn.refl _ _) (.inl rfl) _).alloc _
set_option maxRecDepth 100000 in
set_option maxHeartbeats 1600000 in
theorem dhas_any (r g cap base : Nat) (st : List St) (i : Int) (w : World) (h : RT w r g cap base st) :
    Calls Try.prog 27 #[.pointer (some ⟨r, 0, none⟩), .int .i64 i] w fun e w' => e = .returned (.bool (decide (0 ≤ i ∧ i < st.length))) ∧ w' = w := by
  have hc := h.head_cell
  have hcap := h.caps
  obtain ⟨n, hn⟩ : ∃ n, n = st.length := ⟨_, rfl⟩
  rw [← hn] at hc ⊢
  have HN := Lib.hid hn
  clear hn hcap h
  by_cases h0 : i < 0
  · rw [decide_eq_false (by omega)]
    go_enter Try.func27, Try.ntmps27
    go_wp2
    go_ret
    exact ⟨rfl, rfl⟩
  · by_cases h1 : i < n
    · rw [decide_eq_true (by omega)]
      go_enter Try.func27, Try.ntmps27
      go_wp2
      go_ret
      exact ⟨rfl, rfl⟩
    · rw [decide_eq_false (by omega)]
      go_enter Try.func27, Try.ntmps27
      go_wp2
      go_ret
      exact ⟨rfl, rfl⟩
set_option maxRecDepth 100000 in
set_option maxHeartbeats 3200000 in
theorem dstop_any (r g cap base : Nat) (st : List St) (i : Nat) (c : Int) (w : World) (h : RT w r g cap base st) (hi : i < st.length) (hw : Wf st) (hc : Con st) (h0 : (ns st i).cause = 0) (c0 : c ≠ 0) (hm : st.length ≤ 256) :
    Calls Try.prog 35 #[.pointer (some ⟨r, 0, none⟩), .int .i64 i, .int .i64 c] w fun e w' => e = .returned (.tuple #[]) ∧ RT w' r g cap base (endS st i c) ∧ Turn (fun b => b = g) w w' := by
  have hcc := h.head_cell
  have hcap := h.caps
  have hfz := h.frozen
  have hne := h.ne
  obtain ⟨a0, a1, a2⟩ := h.at hi
  obtain ⟨n, hn⟩ : ∃ n, n = st.length := ⟨_, rfl⟩
  rw [← hn] at hcc hcap hi hm
  have h1 := h.set (j := 2) (u := .int .i64 c) (s := { ns st i with cause := c }) (hn ▸ hi) (by omega) rfl
  rw [← passS_first hw i c (hn ▸ hi) h0] at h1
  have H1 := Lib.hid h1
  have HN := Lib.hid hn
  have HW := Lib.hid hw
  have HC := Lib.hid hc
  have hpl : (passS st i c (i + 1)).length = n := by rw [passS_length, ← hn]
  clear h h1 hn hw hc
  go_enter Try.func35, Try.ntmps35
  go_wp2
  go_loopw [6] (fun v wr => ∃ m : Nat, v = .int .i64 m ∧ i < m ∧ m ≤ n ∧ Hid (RT wr r g cap base (passS st i c m)) ∧ Hid (Turn (fun b => b = g) w wr)) (fun v _ => n - (intOf v).toNat)
  case atStart => exact ⟨i + 1, by go_num, by omega, by omega, H1.out, Turn.setCell (S := fun b => b = g) (p := ⟨g, i * 3 + 2, none⟩) (Turn.refl _ _) (.inl rfl) _⟩
  case round =>
    obtain ⟨m, rfl, him, hmn, HR, HT'⟩ := hrel
    have hl := passS_length st i c m
    have hcc2 := HR.out.head_cell
    rw [hl, ← HN.out] at hcc2
    clear hcc hpl a0 a1 a2 hfz
    by_cases hlt : m < n
    · obtain ⟨p, hp, hpm, hq, hstep⟩ := passS_step HW.out HC.out i c c0 m him (by rw [← HN.out]; exact hlt)
      obtain ⟨b0, b1, b2⟩ := HR.out.at (i := m) (by rw [hl, ← HN.out]; exact hlt)
      obtain ⟨d0, d1, d2⟩ := HR.out.at (i := p) (by rw [hl, ← HN.out]; omega)
      have hset := HR.out.set (i := m) (j := 2) (u := .int .i64 3) (s := { ns st m with cause := 3 }) (by rw [hl, ← HN.out]; exact hlt) (by omega) (by rw [hq]; rfl)
      have hfz := HR.out.frozen
      rw [hq, hp] at b0
      rw [hq] at b2
      have hmz : ¬ ((m : Int) < 0) := by omega
      have hpz : ¬ ((p : Int) < 0) := by omega
      have HSt := Lib.hid hstep
      have HSet := Lib.hid hset
      obtain ⟨q, hqe⟩ : ∃ q, q = (ns (passS st i c m) p).cause := ⟨_, rfl⟩
      obtain ⟨q1, hqe1⟩ : ∃ q, q = (ns st m).cause := ⟨_, rfl⟩
      rw [← hqe] at d2
      rw [← hqe1] at b2
      have HQ := Lib.hid hqe
      have HQ1 := Lib.hid hqe1
      clear hstep hset hqe hqe1 hq hp b1 d0 d1 hl
      by_cases e1 : q1 = 0
      · subst e1
        by_cases e2 : q = 0
        · subst e2
          go_wp2_with fail
          go_quiet (fail)
          go_wp2
          go_roundw
          case rel => exact ⟨m + 1, by go_num, by omega, by omega, by rw [HSt.out, if_neg (fun hh => hh.2 HQ.out.symm)]; exact HR.out.drewN _, HT'.out.drewN _⟩
          case measure => simp [intOf]; omega
        · go_wp2_with fail
          go_quiet (fail)
          go_wp2
          go_roundw
          case rel => exact ⟨m + 1, by go_num, by omega, by omega, by rw [HSt.out, if_pos ⟨HQ1.out.symm, by rw [← HQ.out]; exact e2⟩]; exact HSet.out.drewN _, (HT'.out.drewN _).setCell (.inl rfl) _⟩
          case measure => simp [intOf]; omega
      · go_wp2_with fail
        go_quiet (fail)
        go_wp2
        go_roundw
        case rel => exact ⟨m + 1, by go_num, by omega, by omega, by rw [HSt.out, if_neg (fun hh => e1 (HQ1.out.trans hh.1))]; exact HR.out.drewN _, HT'.out.drewN _⟩
        case measure => simp [intOf]; omega
    · have e : m = n := by omega
      subst e
      go_wp2
      go_end0
      refine ⟨rfl, ?_, HT'.out⟩
      rw [← passS_last, ← HN.out]
      exact HR.out
set_option maxRecDepth 100000 in
set_option maxHeartbeats 3200000 in
theorem dcancel_any (r g cap base : Nat) (st : List St) (i : Nat) (w : World) (h : RT w r g cap base st) (hi : i < st.length) (hI : SInv st) :
    Calls Try.prog 29 #[.pointer (some ⟨r, 0, none⟩), .int .i64 i] w fun e w' => e = .returned (.bool (cancelF st i).1) ∧ RT w' r g cap base (cancelF st i).2 ∧ Turn (fun b => b = g) w w' := by
  have hcc := h.head_cell
  have hcap := h.caps
  obtain ⟨a0, a1, a2⟩ := h.at hi
  obtain ⟨n, hn⟩ : ∃ n, n = st.length := ⟨_, rfl⟩
  have hle := hI.le
  have hi' := hi
  rw [← hn] at hcc hcap hi hle
  obtain ⟨q, hq⟩ : ∃ q, q = (ns st i).cause := ⟨_, rfl⟩
  rw [← hq] at a2
  have HH := Lib.hid h
  have HN := Lib.hid hn
  have HI := Lib.hid hI
  have HQ := Lib.hid hq
  have HLT := Lib.hid hi'
  unfold cancelF
  rw [← HQ.out]
  clear h hn hI hq hi'
  by_cases e : q = 0
  · subst e
    rw [if_pos rfl]
    go_enter Try.func29, Try.ntmps29
    go_wp2_with fail
    refine (dstop_any r g cap base st i 1 w HH.out HLT.out HI.out.wf HI.out.con HQ.out.symm (by decide) HI.out.le).mono ?_
    rintro e w1 ⟨rfl, h1, t1⟩
    have H1 := Lib.hid h1
    have T1 := Lib.hid t1
    clear h1 t1
    go_wp2
    go_ret
    exact ⟨rfl, H1.out, T1.out⟩
  · rw [if_neg e]
    go_enter Try.func29, Try.ntmps29
    go_wp2
    go_ret
    exact ⟨rfl, HH.out, Turn.refl _ _⟩
set_option maxRecDepth 100000 in
set_option maxHeartbeats 3200000 in
theorem dbeat_any (r g cap base : Nat) (st : List St) (i : Nat) (w : World) (h : RT w r g cap base st) (hi : i < st.length) (hI : SInv st) :
    Calls Try.prog 30 #[.pointer (some ⟨r, 0, none⟩), .int .i64 i] w fun e w' => e = .returned (.bool (beatF st i).1) ∧ RT w' r g cap base (beatF st i).2 ∧ Turn (fun b => b = g) w w' := by
  have hcc := h.head_cell
  have hcap := h.caps
  obtain ⟨a0, a1, a2⟩ := h.at hi
  obtain ⟨n, hn⟩ : ∃ n, n = st.length := ⟨_, rfl⟩
  have hle := hI.le
  have hi' := hi
  rw [← hn] at hcc hcap hi hle
  obtain ⟨q, hq⟩ : ∃ q, q = (ns st i).cause := ⟨_, rfl⟩
  rw [← hq] at a2
  have HH := Lib.hid h
  have HN := Lib.hid hn
  have HI := Lib.hid hI
  have HQ := Lib.hid hq
  have HLT := Lib.hid hi'
  unfold beatF
  rw [← HQ.out]
  clear h hn hI hq hi'
  by_cases e : q = 0
  · subst e
    rw [if_pos rfl]
    obtain ⟨res, hres⟩ : ∃ res : Bool × List St, res = (if 0 ≤ spentG st (i + 1) i (-1) then (false, endS st (spentG st (i + 1) i (-1)).toNat 2) else (true, decG (i + 1) i st)) := ⟨_, rfl⟩
    rw [← hres]
    have HRes := Lib.hid hres
    clear hres
    go_enter Try.func30, Try.ntmps30
    go_wp2
    clear a0 a1 a2
    go_loopw [6, 5] (fun v6 v5 wr => ∃ (p s : Int) (m : Nat), v6 = .int .i64 p ∧ v5 = .int .i64 s ∧ -1 ≤ p ∧ p < n ∧ p < m ∧ -1 ≤ s ∧ s < n ∧ Hid (spentG st m p s = spentG st (i + 1) i (-1)) ∧ wr = w) (fun v6 _ _ => (intOf v6 + 1).toNat)
    case atStart => exact ⟨i, -1, i + 1, rfl, rfl, by omega, by omega, by omega, by omega, by omega, rfl, rfl⟩
    case round =>
      obtain ⟨p, s, m, rfl, rfl, hp1, hp2, hp3, hs1, hs2, HS, rfl⟩ := hrel
      by_cases hpn : p < 0
      · have hs : s = spentG st (i + 1) i (-1) := by rw [← HS.out, spentG_neg _ _ _ _ hpn]
        by_cases hsn : s < 0
        · have hnd := Lib.hid (show ¬ 0 ≤ spentG st (i + 1) i (-1) by omega)
          clear hs HS
          go_wp2
          go_loopw [7] (fun v7 wx => ∃ (p : Int) (m : Nat) (st' : List St), v7 = .int .i64 p ∧ -1 ≤ p ∧ p < n ∧ p < m ∧ Hid (st'.length = n) ∧ Hid (RT wx r g cap base st') ∧ Hid (Turn (fun b => b = g) wr wx) ∧ Hid (decG m p st' = decG (i + 1) i st) ∧ Hid (∀ k : Nat, (k : Int) ≤ p → ns st' k = ns st k)) (fun v7 _ => (intOf v7 + 1).toNat)
          case atStart => exact ⟨i, i + 1, st, rfl, by omega, by omega, by omega, HN.out.symm, HH.out, Turn.refl _ _, rfl, fun _ _ => rfl⟩
          case round =>
            obtain ⟨p', m', st', rfl, q1, q2, q3, Q4, QH, QT, QD, QS⟩ := hrel
            have hcc2 := QH.out.head_cell
            rw [Q4.out] at hcc2
            clear hcc
            by_cases hpn' : p' < 0
            · go_wp2
              go_ret
              have e : st' = decG (i + 1) i st := by rw [← QD.out, decG_neg _ _ _ hpn']
              rw [HRes.out, if_neg (show ¬ 0 ≤ spentG st (i + 1) i (-1) by have := hnd.out; omega)]
              exact ⟨rfl, e ▸ QH.out, QT.out⟩
            · obtain ⟨q, rfl⟩ : ∃ q : Nat, p' = q := ⟨p'.toNat, by omega⟩
              obtain ⟨m', rfl⟩ : ∃ k, m' = k + 1 := ⟨m' - 1, by omega⟩
              have hql : q < st'.length := by rw [Q4.out]; omega
              have hqn : q < n := by omega
              have esame := QS.out q (by omega)
              have hlf := HI.out.lefts q (by rw [← HN.out]; omega)
              obtain ⟨a0, a1, a2⟩ := QH.out.at hql
              have hfz := QH.out.frozen
              rw [esame] at a0 a1
              have hpq := HI.out.wf.par q (by rw [← HN.out]; omega)
              have hpz : -1 ≤ (ns st q).par := by
                by_cases hq0 : 0 < q
                · have := HI.out.wf.zero q (by rw [← HN.out]; omega) hq0; omega
                · have : q = 0 := by omega
                  subst this; rw [HI.out.wf.root]; omega
              have HU := Lib.hid (QH.out.set (i := q) (j := 1) (u := .int .i64 ((ns st q).left - 1)) (s := { ns st' q with left := (ns st' q).left - 1 }) hql (by omega) (by rw [esame]; rfl))
              have hd1 := Lib.hid (show decG m' (ns st q).par (st'.set q { ns st' q with left := (ns st' q).left - 1 }) = decG (i + 1) i st by
                have := QD.out
                rw [decG, if_neg (by omega), show ((q : Int)).toNat = q from by omega] at this
                rw [← this, esame])
              have hs9 : Hid (∀ k : Nat, (k : Int) ≤ (ns st q).par → ns (st'.set q { ns st' q with left := (ns st' q).left - 1 }) k = ns st k) := by
                intro k hk
                rw [ns_set _ _ _ _ hql, if_neg (by omega)]
                exact QS.out k (by omega)
              have hlen := Lib.hid (show (st'.set q { ns st' q with left := (ns st' q).left - 1 }).length = n by rw [List.length_set]; exact Q4.out)
              generalize st'.set q { ns st' q with left := (ns st' q).left - 1 } = st2 at HU hd1 hs9 hlen
              obtain ⟨lf, hlfe⟩ : ∃ lf, lf = (ns st q).left := ⟨_, rfl⟩
              rw [← hlfe] at a1 hlf HU
              obtain ⟨pp, hpp⟩ : ∃ pp, pp = (ns st q).par := ⟨_, rfl⟩
              rw [← hpp] at a0 hpq hpz hd1 hs9
              clear hlfe hpp esame a2 QD QS
              go_wp2
              go_roundw
              case rel => exact ⟨pp, m', st2, rfl, hpz, by omega, by omega, hlen.out, HU.out, QT.out.setCell (.inl rfl) _, hd1.out, hs9⟩
              case measure => simp [intOf]; omega
        · obtain ⟨u, rfl⟩ : ∃ r : Nat, s = r := ⟨s.toNat, by omega⟩
          obtain ⟨u', e1, hrl, hr0, hru⟩ := spent_live HI.out.wf HI.out.con HLT.out HQ.out.symm (by omega)
          have e2 : u' = u := by omega
          subst e2
          have HE1 := Lib.hid (show res = (false, endS st u' 2) by rw [HRes.out, if_pos (by omega), e1]; rfl)
          clear e1 hs HS
          have hE := Lib.hid (dstop_any r g cap base st u' 2 wr HH.out hrl HI.out.wf HI.out.con hr0 (by decide) HI.out.le)
          clear hr0 hrl hru
          go_wp2_with fail
          refine hE.out.mono ?_
          rintro e w1 ⟨rfl, h1, t1⟩
          have H1 := Lib.hid h1
          have T1 := Lib.hid t1
          clear h1 t1
          go_wp2
          go_ret
          rw [HE1.out]
          exact ⟨rfl, H1.out, T1.out⟩
      · obtain ⟨q, rfl⟩ : ∃ q : Nat, p = q := ⟨p.toNat, by omega⟩
        obtain ⟨m, rfl⟩ : ∃ k, m = k + 1 := ⟨m - 1, by omega⟩
        have hqn : q < n := by omega
        obtain ⟨a0, a1, a2⟩ := HH.out.at (i := q) (by rw [← HN.out]; exact hqn)
        have hpq := HI.out.wf.par q (by rw [← HN.out]; omega)
        have hpz : -1 ≤ (ns st q).par := by
          by_cases hq0 : 0 < q
          · have := HI.out.wf.zero q (by rw [← HN.out]; omega) hq0; omega
          · have : q = 0 := by omega
            subst this; rw [HI.out.wf.root]; omega
        have hs := HS.out
        rw [spentG, if_neg (by omega), show ((q : Int)).toNat = q from by omega] at hs
        have HS2 := Lib.hid hs
        clear hs HS
        obtain ⟨lf, hlfe⟩ : ∃ lf, lf = (ns st q).left := ⟨_, rfl⟩
        rw [← hlfe] at a1 HS2
        obtain ⟨pp, hpp⟩ : ∃ pp, pp = (ns st q).par := ⟨_, rfl⟩
        rw [← hpp] at a0 hpq hpz HS2
        clear hlfe hpp a2
        by_cases hl0 : lf = 0
        · subst hl0
          rw [if_pos rfl] at HS2
          go_wp2
          go_roundw
          case rel => exact ⟨pp, q, m, rfl, rfl, hpz, by omega, by omega, by omega, by omega, HS2.out, by first | rfl | trivial⟩
          case measure => simp [intOf]; omega
        · rw [if_neg hl0] at HS2
          go_wp2
          go_roundw
          case rel => exact ⟨pp, s, m, rfl, rfl, hpz, by omega, by omega, hs1, hs2, HS2.out, by first | rfl | trivial⟩
          case measure => simp [intOf]; omega
  · rw [if_neg e]
    go_enter Try.func30, Try.ntmps30
    go_wp2
    go_ret
    exact ⟨rfl, HH.out, Turn.refl _ _⟩
end Go.Proofs.Ytcfdpeafnpeddaa
