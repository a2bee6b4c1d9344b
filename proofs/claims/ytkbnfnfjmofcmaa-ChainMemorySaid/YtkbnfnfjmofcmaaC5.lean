/- Install in one; At, After, Chain, Count. -/
import Derived.Test.YtkbnfnfjmofcmaaC4
namespace Go.Proofs.Ytkbnfnfjmofcmaa
set_option linter.unusedVariables false
set_option linter.unusedSimpArgs false
open Go.RowKit

def InstAll (F : Nat → Prop) (p cnt N : Nat) (st : ByteArray → List Ver) (k : ByteArray) (v : Ver) (w : World) (e : Ending) (w' : World) : Prop :=
  e = .returned (.int .i64 (refuse k v (st k))) ∧ ∃ F', SAt F' w' p (if refuse k v (st k) = 0 then cnt + 1 else cnt) (N + 1) (if refuse k v (st k) = 0 then upd st k (st k ++ [v]) else st) ∧ (∀ i, F' i → F i ∨ w.heap.size ≤ i) ∧ Turn F w w'
theorem install_any (F : Nat → Prop) (p cnt N : Nat) (st : ByteArray → List Ver) (k : ByteArray) (v : Ver) (w : World) (h : SAt F w p cnt N st) (hk : k.size ≤ maxLen) (hN : N < 3000000000000) :
    Calls Try.prog 15 #[.pointer (some ⟨p, 0, none⟩), .string k, .agg #[.int .i64 v.commit, .int .i64 v.writer, .bool v.found, .string v.value]] w (InstAll F p cnt N st k v w) := by
  by_cases h1 : k.size < 1 ∨ 8 < k.size
  · refine (install_key p k v w hk h1).mono fun e w' ⟨he, hb⟩ => ?_
    unfold InstAll
    have er : refuse k v (st k) = 130 := by unfold refuse; rw [if_pos h1]
    rw [er]
    exact ⟨he, F, (h.below hb).mono (by omega), fun _ => .inl, Turn.of_below hb _⟩
  · cases h2 : rightV v with
    | false =>
      refine (install_right p k v w (by omega) (by omega) h2).mono fun e w' ⟨he, hb⟩ => ?_
      unfold InstAll
      have er : refuse k v (st k) = 131 := by unfold refuse; rw [if_neg h1, if_pos h2]
      rw [er]
      exact ⟨he, F, (h.below hb).mono (by omega), fun _ => .inl, Turn.of_below hb _⟩
    | true =>
      refine (install_rest F p cnt N st k v w h (by omega) (by omega) h2 hN).mono fun e w' hp => ?_
      unfold InstAll
      unfold InstPost at hp
      by_cases h3 : staleV (st k) v = true
      · rw [if_pos h3] at hp
        have er : refuse k v (st k) = 132 := by unfold refuse; rw [if_neg h1, if_neg (by rw [h2]; decide), if_pos h3]
        rw [er]
        exact ⟨hp.1, F, (h.below hp.2).mono (by omega), fun _ => .inl, Turn.of_below hp.2 _⟩
      · rw [if_neg h3] at hp
        have er : refuse k v (st k) = 0 := by unfold refuse; rw [if_neg h1, if_neg (by rw [h2]; decide), if_neg h3]
        rw [er]
        exact hp

/-- What is seen: a version, or nothing. -/
def seen (o : Option Ver) : Value := .tuple #[.agg (o.getD Ver.zero).cells.toArray, .bool o.isSome]
def atV (l : List Ver) (t : Int) : Option Ver := if 0 < cut l t then l[cut l t - 1]? else none
def afterV (l : List Ver) (t : Int) : Option Ver := l[cut l t]?
/-- The value that the map holds of a key, as the walk meets it. -/
theorem SAt.look {F : Nat → Prop} {w : World} {p cnt N : Nat} {st : ByteArray → List Ver} (h : SAt F w p cnt N st) {k : ByteArray} (hk : k.size ≤ maxLen) :
    ∃ b A cap, w.cell? ⟨p, 0, none⟩ = some (.map (some b)) ∧ (Instr.lookup 58 (.map (some b)) (.string k) false).run Try.prog w = .ok (.slice A (st k).length cap) w ∧ VOwn w (.slice A (st k).length cap) (st k) ∧ (st k).length ≤ N ∧ w.cell? ⟨p, 1, none⟩ = some (.int .i64 cnt) := by
  obtain ⟨b, n, f, m1, m2, m3, m4, m5, m6, m7, m8, m9⟩ := h
  have hlk := m2.lookup (T := 58) (E := 57) Try.underlying9 Try.underlying58 (zero_list w) hk
  have ho := m3.own k
  obtain ⟨A, cap, ev⟩ : ∃ A cap, (f k).getD (.slice none 0 0) = .slice A (st k).length cap := by
    rcases ho.cases with ⟨e, e2⟩ | ⟨g, cap, rest, e, -⟩
    · exact ⟨none, 0, by rw [e, e2]; rfl⟩
    · exact ⟨_, _, e⟩
  rw [ev] at hlk ho
  exact ⟨b, A, cap, m1.cell 0, hlk, ho, m9 k, m1.cell 1⟩
set_option maxHeartbeats 1000000 in
theorem at_any (F : Nat → Prop) (p cnt N : Nat) (st : ByteArray → List Ver) (k : ByteArray) (t : Int) (w : World) (h : SAt F w p cnt N st) (hk : k.size ≤ maxLen) (hN : N < 3000000000000) (hr : Rising (st k)) :
    Calls Try.prog 11 #[.pointer (some ⟨p, 0, none⟩), .string k, .int .i64 t] w fun e w' => e = .returned (seen (atV (st k) t)) ∧ Below w.heap.size w w' := by
  have hb0 := (Below.refl w.heap.size w).alloc (Nat.le_refl _) (.cells #[.int .i64 0, .int .i64 0, .bool false, .string ⟨#[]⟩] 27)
  have r0 := RowAt.new w 27 Ver.zero.cells
  obtain ⟨b, A, cap, q0, hlk, ho, hl, -⟩ := (h.below hb0).look hk
  obtain ⟨n, hn⟩ : ∃ n, n = (st k).length := ⟨_, rfl⟩
  rw [← hn] at hlk ho hl
  have HN := Lib.hid hn
  have HO := Lib.hid ho
  have R0 := Lib.hid r0
  have B0 := Lib.hid hb0
  have HR := Lib.hid hr
  clear hn ho r0 hb0 hr h
  go_enter Try.func11, Try.ntmps11
  go_wp2_with fail
  refine (upTo_any _ (st k) t _ HO.out.vers (by rw [← HN.out]; omega) HR.out).mono ?_
  rintro e w1 ⟨rfl, hb1⟩
  have R1 := Lib.hid (R0.out.below hb1)
  have O1 := Lib.hid (Own.below HO.out hb1)
  have B1 := Lib.hid (B0.out.trans (hb1.mono (by simp)))
  have hcl := cut_le (st k) t
  rw [← HN.out] at hcl
  obtain ⟨m, hm⟩ : ∃ m, m = cut (st k) t := ⟨_, rfl⟩
  rw [← hm] at hcl ⊢
  have HM := Lib.hid hm
  clear hm hb1 q0 hlk
  have c := R1.out.cell
  have fz := R1.out.frozen
  simp only [Ver.cells, Ver.zero] at c
  by_cases h0 : 0 < m
  · obtain ⟨g, x, rfl, hx, c0, c1, c2, c3⟩ := (VOwn.vers O1.out).cells (i := m - 1) (by rw [← HN.out]; omega)
    have HX := Lib.hid (show atV (st k) t = some x by unfold atV; rw [← HM.out, if_pos h0]; exact hx)
    clear hx
    go_wp2
    have r9 := (R1.out.wset x.cells 0).congr (cs' := x.cells) rfl
    refine bodyPost_ret (results_ct (T := 27) Try.results11 _ rfl r9 Try.underlying27 rfl (by kernel_rfl)) rfl ⟨?_, ?_⟩
    · rw [HX.out]; rfl
    · exact (((B1.out.setCell (Nat.le_refl _) _).setCell (Nat.le_refl _) _).setCell (Nat.le_refl _) _).setCell (Nat.le_refl _) _
  · have HX := Lib.hid (show atV (st k) t = none by unfold atV; rw [← HM.out, if_neg h0])
    go_wp2
    have r9 := (R1.out.wset Ver.zero.cells 0).congr (cs' := Ver.zero.cells) rfl
    refine bodyPost_ret (results_ct (T := 27) Try.results11 _ rfl r9 Try.underlying27 rfl (by kernel_rfl)) rfl ⟨?_, ?_⟩
    · rw [HX.out]; rfl
    · exact (((B1.out.setCell (Nat.le_refl _) _).setCell (Nat.le_refl _) _).setCell (Nat.le_refl _) _).setCell (Nat.le_refl _) _
set_option maxHeartbeats 1000000 in
theorem after_any (F : Nat → Prop) (p cnt N : Nat) (st : ByteArray → List Ver) (k : ByteArray) (t : Int) (w : World) (h : SAt F w p cnt N st) (hk : k.size ≤ maxLen) (hN : N < 3000000000000) (hr : Rising (st k)) :
    Calls Try.prog 12 #[.pointer (some ⟨p, 0, none⟩), .string k, .int .i64 t] w fun e w' => e = .returned (seen (afterV (st k) t)) ∧ Below w.heap.size w w' := by
  have hb0 := (Below.refl w.heap.size w).alloc (Nat.le_refl _) (.cells #[.int .i64 0, .int .i64 0, .bool false, .string ⟨#[]⟩] 27)
  have r0 := RowAt.new w 27 Ver.zero.cells
  obtain ⟨b, A, cap, q0, hlk, ho, hl, -⟩ := (h.below hb0).look hk
  obtain ⟨n, hn⟩ : ∃ n, n = (st k).length := ⟨_, rfl⟩
  rw [← hn] at hlk ho hl
  have HN := Lib.hid hn
  have HO := Lib.hid ho
  have R0 := Lib.hid r0
  have B0 := Lib.hid hb0
  have HR := Lib.hid hr
  clear hn ho r0 hb0 hr h
  go_enter Try.func12, Try.ntmps12
  go_wp2_with fail
  refine (upTo_any _ (st k) t _ HO.out.vers (by rw [← HN.out]; omega) HR.out).mono ?_
  rintro e w1 ⟨rfl, hb1⟩
  have R1 := Lib.hid (R0.out.below hb1)
  have O1 := Lib.hid (Own.below HO.out hb1)
  have B1 := Lib.hid (B0.out.trans (hb1.mono (by simp)))
  have hcl := cut_le (st k) t
  rw [← HN.out] at hcl
  obtain ⟨m, hm⟩ : ∃ m, m = cut (st k) t := ⟨_, rfl⟩
  rw [← hm] at hcl ⊢
  have HM := Lib.hid hm
  clear hm hb1 q0 hlk
  have c := R1.out.cell
  have fz := R1.out.frozen
  simp only [Ver.cells, Ver.zero] at c
  by_cases h0 : m < n
  · obtain ⟨g, x, rfl, hx, c0, c1, c2, c3⟩ := (VOwn.vers O1.out).cells (i := m) (by rw [← HN.out]; omega)
    have HX := Lib.hid (show afterV (st k) t = some x by unfold afterV; rw [← HM.out]; exact hx)
    clear hx
    go_wp2
    have r9 := (R1.out.wset x.cells 0).congr (cs' := x.cells) rfl
    refine bodyPost_ret (results_ct (T := 27) Try.results12 _ rfl r9 Try.underlying27 rfl (by kernel_rfl)) rfl ⟨?_, ?_⟩
    · rw [HX.out]; rfl
    · exact (((B1.out.setCell (Nat.le_refl _) _).setCell (Nat.le_refl _) _).setCell (Nat.le_refl _) _).setCell (Nat.le_refl _) _
  · have HX := Lib.hid (show afterV (st k) t = none by unfold afterV; rw [← HM.out]; exact List.getElem?_eq_none (by rw [← HN.out]; omega))
    go_wp2
    have r9 := (R1.out.wset Ver.zero.cells 0).congr (cs' := Ver.zero.cells) rfl
    refine bodyPost_ret (results_ct (T := 27) Try.results12 _ rfl r9 Try.underlying27 rfl (by kernel_rfl)) rfl ⟨?_, ?_⟩
    · rw [HX.out]; rfl
    · exact (((B1.out.setCell (Nat.le_refl _) _).setCell (Nat.le_refl _) _).setCell (Nat.le_refl _) _).setCell (Nat.le_refl _) _
theorem count_any (F : Nat → Prop) (p cnt N : Nat) (st : ByteArray → List Ver) (w : World) (h : SAt F w p cnt N st) :
    Calls Try.prog 17 #[.pointer (some ⟨p, 0, none⟩)] w fun e w' => e = .returned (.int .i64 cnt) ∧ w = w' := by
  obtain ⟨b, A, cap, -, -, -, -, q1⟩ := h.look (k := ByteArray.empty) (by decide)
  clear h
  go_enter Try.func17, Try.ntmps17
  go_wp2
  go_ret
  exact ⟨rfl, rfl⟩

/-- A slice of no elements, made by the call. -/
theorem own_empty (w : World) : Own (w.alloc (.cells #[] 27)) w.heap.size 27 4 Ver.cells (.slice (some ⟨w.heap.size, 0, none⟩) 0 0) [] :=
  ⟨rfl, .inr ⟨w.heap.size, 0, #[], rfl, Nat.le_refl _, heap_alloc_new w _, Nat.le_refl _, Nat.zero_le _, rfl, rfl⟩⟩
set_option maxHeartbeats 1000000 in
theorem chain_any (F : Nat → Prop) (p cnt N : Nat) (st : ByteArray → List Ver) (k : ByteArray) (w : World) (h : SAt F w p cnt N st) (hk : k.size ≤ maxLen) (hN : N < 3000000000000) :
    Calls Try.prog 13 #[.pointer (some ⟨p, 0, none⟩), .string k] w fun e w' => ∃ v, e = .returned v ∧ Own w' w.heap.size 27 4 Ver.cells v (st k) ∧ Below w.heap.size w w' := by
  have B0 := Lib.hid ((Below.refl w.heap.size w).alloc (Nat.le_refl _) (.cells #[] 27))
  have O0 := Lib.hid (own_empty w)
  obtain ⟨b, A, cap, q0, hlk, ho, hl, -⟩ := (h.below B0.out).look hk
  have HO := Lib.hid (Own.read ho)
  clear ho h
  go_enter Try.func13, Try.ntmps13
  go_wp2_with (at_builtin; refine cat_list Ver.cells 27 30 57 27 (.agg Ver.zero.cells.toArray) 4 40 Try.underlying30 Try.underlying57 (by kernel_rfl) rfl (by decide) Ver.len ver_one _ _ (by rfl) (by rfl) w.heap.size (.slice (some ⟨w.heap.size, 0, none⟩) 0 0) [] (st k) (by rfl) O0.out (.slice A (st k).length cap) (by rfl) HO.out ?_ ?_ (by simp) ?_)
  · unfold maxLen; simp; omega
  · simp; omega
  · intro v' w1 o1 g1 l1
    have O1 := Lib.hid o1
    have B1 := Lib.hid (B0.out.grown g1 (by simp) (fun k hk => by simp [Value.ownBlock] at hk; omega))
    clear o1 g1 l1 q0 hlk
    go_wp2
    go_ret
    exact ⟨v', rfl, O1.out, B1.out⟩

end Go.Proofs.Ytkbnfnfjmofcmaa
