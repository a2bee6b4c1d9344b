/- The document's buffer: New, Add and Take; and where New of the buffer refuses. -/
import Derived.Test.YtmmfobbalhpomaaRC
namespace Go.Proofs.Ytmmfobbalhpomaa
set_option linter.unusedVariables false
set_option linter.unusedSimpArgs false
open Go.RowKit

/-- The document's buffer in memory. -/
structure RP (w : World) (b base : Nat) (o bud y pk : Int) (v : Value) (rows : List Row) : Prop where
  head : RowAt w b 48 [.int .i64 o, .int .i64 bud, .int .i64 y, .int .i64 pk, v]
  own : Own w base 42 7 Row.cells v rows
theorem RP.turn {w w' : World} {b base : Nat} {o bud y pk : Int} {v : Value} {rows : List Row} (H : RP w b base o bud y pk v rows) {S : Nat → Prop} (ht : Turn S w w') (h1 : ¬ S b) (h2 : ∀ k, v.ownBlock = some k → ¬ S k) : RP w' b base o bud y pk v rows := ⟨H.head.turn ht h1, Own.turn H.own ht h2⟩
theorem RP.below {w w' : World} {b base : Nat} {o bud y pk : Int} {v : Value} {rows : List Row} (H : RP w b base o bud y pk v rows) (hb : Below w.heap.size w w') : RP w' b base o bud y pk v rows := H.turn (Turn.of_below hb fun _ => False) id fun _ _ => id
/-- What New refuses. -/
def newE (o bud : Int) : Int := if o = 1 ∨ o = 2 then if bud < 1 ∨ 16777216 < bud then 100 else 0 else 91
theorem newE_zero {o bud : Int} (h : newE o bud = 0) : (o = 1 ∨ o = 2) ∧ 1 ≤ bud ∧ bud ≤ 16777216 := by
  unfold newE at h
  by_cases h1 : o = 1 ∨ o = 2
  · rw [if_pos h1] at h
    by_cases h2 : bud < 1 ∨ 16777216 < bud
    · rw [if_pos h2] at h; cases h
    · exact ⟨h1, by omega, by omega⟩
  · rw [if_neg h1] at h; cases h
theorem known_no (o : Int) (h1 : ¬ o = 1) (h2 : ¬ o = 2) (w : World) : Calls Try.prog 27 #[.int .i64 o] w fun e w' => e = .returned (.bool false) ∧ w = w' := by
  have b1 : (o == 1) = false := by simpa using h1
  have b2 : (o == 2) = false := by simpa using h2
  go_enter Try.func27, Try.ntmps27
  go_wp2
  go_ret
  exact ⟨rfl, rfl⟩
set_option maxRecDepth 100000 in
set_option maxHeartbeats 1600000 in
theorem new_no (o bud : Int) (h : newE o bud ≠ 0) (w : World) : Calls Try.prog 9 #[.int .i64 o, .int .i64 bud] w fun e w' => e = .returned (.tuple #[.pointer none, .int .i64 (newE o bud)]) ∧ w = w' := by
  by_cases h0 : o = 1 ∨ o = 2
  · have h1 : bud < 1 ∨ 16777216 < bud := by
      refine Classical.byContradiction fun hh => h ?_
      unfold newE
      rw [if_pos h0, if_neg hh]
    have e : newE o bud = 100 := by unfold newE; rw [if_pos h0, if_pos h1]
    rw [e]
    clear h e
    by_cases h2 : bud < 1
    · go_enter Try.func9, Try.ntmps9
      go_wp2_with fail
      refine (known_any o h0 w).mono ?_
      rintro e w1 ⟨rfl, rfl⟩
      go_wp2_with fail
      exact bodyPost_ret (results_tmp2 rfl _ _ _) rfl ⟨rfl, rfl⟩
    · have h3 : 16777216 < bud := by omega
      have h4 : ¬ bud < 1 := h2
      go_enter Try.func9, Try.ntmps9
      go_wp2_with fail
      refine (known_any o h0 w).mono ?_
      rintro e w1 ⟨rfl, rfl⟩
      go_wp2_with fail
      exact bodyPost_ret (results_tmp2 rfl _ _ _) rfl ⟨rfl, rfl⟩
  · have e : newE o bud = 91 := by unfold newE; rw [if_neg h0]
    rw [e]
    clear h e
    go_enter Try.func9, Try.ntmps9
    go_wp2_with fail
    refine (known_no o (fun h => h0 (.inl h)) (fun h => h0 (.inr h)) w).mono ?_
    rintro e w1 ⟨rfl, rfl⟩
    go_wp2_with fail
    exact bodyPost_ret (results_tmp2 rfl _ _ _) rfl ⟨rfl, rfl⟩
set_option maxRecDepth 100000 in
set_option maxHeartbeats 1600000 in
theorem refnew_no (o bud : Int) (h : newE o bud ≠ 0) (w : World) : Calls Try.prog 14 #[.int .i64 o, .int .i64 bud] w fun e w' => e = .returned (.tuple #[.pointer none, .int .i64 (newE o bud)]) ∧ w = w' := by
  by_cases h0 : o = 1 ∨ o = 2
  · have h1 : bud < 1 ∨ 16777216 < bud := by
      refine Classical.byContradiction fun hh => h ?_
      unfold newE
      rw [if_pos h0, if_neg hh]
    have e : newE o bud = 100 := by unfold newE; rw [if_pos h0, if_pos h1]
    rw [e]
    clear h e
    have h5 : ¬ o < 1 := by omega
    have h6 : ¬ 2 < o := by omega
    by_cases h2 : bud < 1
    · go_enter Try.func14, Try.ntmps14
      go_wp2_with fail
      exact bodyPost_ret (results_tmp2 rfl _ _ _) rfl ⟨rfl, rfl⟩
    · have h3 : 16777216 < bud := by omega
      have h4 : ¬ bud < 1 := h2
      go_enter Try.func14, Try.ntmps14
      go_wp2_with fail
      exact bodyPost_ret (results_tmp2 rfl _ _ _) rfl ⟨rfl, rfl⟩
  · have e : newE o bud = 91 := by unfold newE; rw [if_neg h0]
    rw [e]
    clear h e
    by_cases h2 : o < 1
    · go_enter Try.func14, Try.ntmps14
      go_wp2_with fail
      exact bodyPost_ret (results_tmp2 rfl _ _ _) rfl ⟨rfl, rfl⟩
    · have h3 : 2 < o := by omega
      have h4 : ¬ o < 1 := h2
      go_enter Try.func14, Try.ntmps14
      go_wp2_with fail
      exact bodyPost_ret (results_tmp2 rfl _ _ _) rfl ⟨rfl, rfl⟩
set_option maxRecDepth 100000 in
set_option maxHeartbeats 1600000 in
theorem refnew_any (o bud : Int) (ho : o = 1 ∨ o = 2) (h1 : 1 ≤ bud) (h2 : bud ≤ 16777216) (w : World) :
    Calls Try.prog 14 #[.int .i64 o, .int .i64 bud] w fun e w' => e = .returned (.tuple #[.pointer (some ⟨w.heap.size, 0, none⟩), .int .i64 0]) ∧ RP w' w.heap.size w.heap.size o bud 0 0 (.slice none 0 0) [] ∧ Below w.heap.size w w' := by
  have hp : RP (w.alloc (.cells [Value.int .i64 o, .int .i64 bud, .int .i64 0, .int .i64 0, .slice none 0 0].toArray 48)) w.heap.size w.heap.size o bud 0 0 (.slice none 0 0) [] := ⟨RowAt.new w 48 _, Own.nil _ _ _ _ _⟩
  have HP := Lib.hid hp
  have BB := Lib.hid ((Below.refl w.heap.size w).alloc (Nat.le_refl _) (.cells [Value.int .i64 o, .int .i64 bud, .int .i64 0, .int .i64 0, .slice none 0 0].toArray 48))
  have h3 : ¬ o < 1 := by omega
  have h4 : ¬ 2 < o := by omega
  have h5 : ¬ bud < 1 := by omega
  have h6 : ¬ 16777216 < bud := by omega
  clear hp
  go_enter Try.func14, Try.ntmps14
  go_wp2_with fail
  exact bodyPost_ret (results_tmp2 rfl _ _ _) rfl ⟨rfl, HP.out, BB.out⟩
/-- What the document's Add leaves. -/
def RAddPost (b base : Nat) (o bud y pk : Int) (v : Value) (rows : List Row) (r : Row) (w : World) (e : Ending) (w' : World) : Prop :=
  e = .returned (.int .i64 (addC bud y r)) ∧ (if addC bud y r = 0 then ∃ v' pk', RP w' b base o bud (y + sizeF r) pk' v' (rows ++ [r]) ∧ (∀ k, v'.ownBlock = some k → v.ownBlock = some k ∨ w.heap.size ≤ k) ∧ pk' = (if pk < y + sizeF r then y + sizeF r else pk) else RP w' b base o bud y pk v rows) ∧ Turn (fun k => k = b ∨ v.ownBlock = some k) w w'
set_option maxRecDepth 100000 in
set_option maxHeartbeats 6400000 in
theorem refadd_any (b base : Nat) (o bud y pk : Int) (v : Value) (rows : List Row) (r : Row) (w : World) (H : RP w b base o bud y pk v rows) (hbw : base ≤ w.heap.size) (hlen : (rows.length : Int) * 7 ≤ y) (hle : y ≤ bud) (htop : bud ≤ 16777216) (hpk0 : 0 ≤ pk) (hpkl : pk ≤ bud) :
    Calls Try.prog 15 #[.pointer (some ⟨b, 0, none⟩), .agg r.cells.toArray] w (RAddPost b base o bud y pk v rows r w) := by
  obtain ⟨z, hz⟩ : ∃ z, z = sizeF r := ⟨_, rfl⟩
  obtain ⟨res, hres⟩ : ∃ z, z = addC bud y r := ⟨_, rfl⟩
  have HSZ := Lib.hid (sizeF_le r)
  have HR := Lib.hid hres
  have HZ := Lib.hid hz
  have hbl := H.head.lt
  unfold RAddPost
  rw [← hres, ← hz]
  clear hres
  have BX := Lib.hid (RowAt.new w 42 r.cells)
  have BW := Lib.hid ((Below.refl w.heap.size w).alloc (Nat.le_refl _) (.cells r.cells.toArray 42))
  have HH := Lib.hid H
  have H0 := Lib.hid (H.below BW.out)
  obtain ⟨kx, tx, sx, ix, fx, ox, bx⟩ := r
  clear H hz
  simp only [Row.cells] at BX BW H0 ⊢
  go_enter Try.func15, Try.ntmps15
  go_wp2_with fail
  refine (refvalid_any ⟨kx, tx, sx, ix, fx, ox, bx⟩ _).mono ?_
  rintro e w1 ⟨rfl, hb1⟩
  have BX1 := Lib.hid (BX.out.below hb1)
  have H1 := Lib.hid (H0.out.below hb1)
  have B1 := Lib.hid (BW.out.trans (hb1.mono (by simp)))
  have S1 := Lib.hid (Nat.le_trans (show w.heap.size + 1 ≤ (w.alloc (.cells #[.int .i64 kx, .int .i64 tx, .int .i64 sx, .int .i64 ix, .int .i64 fx, .int .i64 ox, .string bx] 42)).heap.size by simp) hb1.size)
  clear hb1 BX BW H0
  cases hok : Row.ok ⟨kx, tx, sx, ix, fx, ox, bx⟩ with
  | false =>
    have er : res = 90 := by rw [HR.out, addC, if_neg (by rw [hok]; decide)]
    subst er
    go_wp2_with fail
    go_ret
    exact ⟨rfl, by first | exact H1.out | (rw [if_neg (by decide)]; exact H1.out), Turn.of_below B1.out _⟩
  | true =>
    have hz7 : 7 ≤ z ∧ z ≤ 1000 := by rw [HZ.out]; exact HSZ.out.1 hok
    have er : res = if bud < z then 101 else if bud < y + z then 102 else 0 := by rw [HR.out, addC, if_pos hok, ← HZ.out]
    have HOK := Lib.hid hok
    clear hok
    have hx1 := BX1.out.cell
    go_wp2_with fail
    clear hx1
    refine (refbytes_any ⟨kx, tx, sx, ix, fx, ox, bx⟩ HOK.out _).mono ?_
    rintro e w2 ⟨A2, n2, c2, rfl, hn2, hb2⟩
    rw [← HZ.out] at hn2
    have BX2 := Lib.hid (BX1.out.below hb2)
    have H2 := Lib.hid (H1.out.below hb2)
    have B2 := Lib.hid (B1.out.trans (hb2.mono B1.out.size))
    have S2 := Lib.hid (Nat.le_trans S1.out hb2.size)
    clear hb2 H1 BX1 B1 S1
    subst hn2
    have hc := H2.out.head.cell
    by_cases h1 : bud < n2
    · have er2 : res = 101 := by rw [er, if_pos h1]
      clear er
      subst er2
      go_wp2_with fail
      go_ret
      exact ⟨rfl, by first | exact H2.out | (rw [if_neg (by decide)]; exact H2.out), Turn.of_below B2.out _⟩
    · have h1' : (n2 : Int) ≤ bud := by omega
      have hw : -9223372036854775808 ≤ bud - y ∧ bud - y ≤ 9223372036854775807 := by omega
      obtain ⟨hw1, hw2⟩ := hw
      by_cases h2 : bud < y + n2
      · have er2 : res = 102 := by rw [er, if_neg h1, if_pos h2]
        have h2' : bud - y < n2 := by omega
        clear er
        subst er2
        go_wp2_with fail
        go_region
        go_wp2_with fail
        go_ret
        exact ⟨rfl, by first | exact H2.out.turn ((Turn.refl (fun _ => False) _).drew) id (fun _ _ => id) | (rw [if_neg (by decide)]; exact H2.out.turn ((Turn.refl (fun _ => False) _).drew) id (fun _ _ => id)), (Turn.of_below B2.out _).drew⟩
      · have er2 : res = 0 := by rw [er, if_neg h1, if_neg h2]
        have h2' : ¬ bud - y < n2 := by omega
        clear er
        subst er2
        have hy0 : 0 ≤ y := by omega
        have hyz : y + n2 ≤ bud := by omega
        have hyz0 : 0 ≤ y + (n2 : Int) := by omega
        have hfz := H2.out.head.frozen
        go_wp2_with fail
        go_region
        go_wp2_with fail
        have hvb : v.ownBlock ≠ some b := own_far H2.out.own H2.out.head (by decide)
        have t3 : Turn (fun k => k = b) w2 (w2.setCell ⟨b, 2, none⟩ (.int .i64 (y + n2))).drew := (Turn.setCell (S := fun k => k = b) (p := ⟨b, 2, none⟩) (Turn.refl _ _) (.inl rfl) _).drew
        have R3 := Lib.hid (show RowAt (w2.setCell ⟨b, 2, none⟩ (.int .i64 (y + n2))).drew b 48 [.int .i64 o, .int .i64 bud, .int .i64 (y + n2), .int .i64 pk, v] from RowAt.drew (H2.out.head.set 2 (.int .i64 (y + n2))))
        have O3 := Lib.hid (Own.turn H2.out.own t3 fun k hk e => hvb (by rw [hk, e]))
        have BX3 := Lib.hid (BX2.out.turn t3 (fun e => by omega))
        have T3 := Lib.hid ((Turn.of_below B2.out (fun k => k = b ∨ v.ownBlock = some k)).trans (t3.mono fun _ _ e => .inl e))
        have S3 := Lib.hid (Nat.le_trans S2.out t3.size)
        clear t3 hc hfz BX2 H2 S2 B2
        generalize (w2.setCell ⟨b, 2, none⟩ (.int .i64 (y + n2))).drew = W3 at R3 O3 BX3 T3 S3 ⊢
        have hc3 := R3.out.cell
        have hf3 := R3.out.frozen
        by_cases hpm : pk < y + n2
        · have hpm' : ¬ y + (n2 : Int) ≤ pk := by omega
          go_wp2_with fail
          go_region
          go_wp2_with fail
          have t5 : Turn (fun k => k = b) W3 (W3.setCell ⟨b, 3, none⟩ (.int .i64 (y + n2))).drew := (Turn.setCell (S := fun k => k = b) (p := ⟨b, 3, none⟩) (Turn.refl _ _) (.inl rfl) _).drew
          have R5 := Lib.hid (show RowAt (W3.setCell ⟨b, 3, none⟩ (.int .i64 (y + n2))).drew b 48 [.int .i64 o, .int .i64 bud, .int .i64 (y + n2), .int .i64 (y + n2), v] from RowAt.drew (R3.out.set 3 (.int .i64 (y + n2))))
          have O5 := Lib.hid (Own.turn O3.out t5 fun k hk e => hvb (by rw [hk, e]))
          have BX5 := Lib.hid (BX3.out.turn t5 (fun e => by omega))
          have T5 := Lib.hid (T3.out.trans (t5.mono (S' := fun k => k = b ∨ v.ownBlock = some k) fun _ _ e => .inl e))
          have S5 := Lib.hid (Nat.le_trans S3.out t5.size)
          clear t5 hc3 hf3 R3 O3 BX3 T3 S3
          generalize (W3.setCell ⟨b, 3, none⟩ (.int .i64 (y + n2))).drew = W5 at R5 O5 BX5 T5 S5 ⊢
          have q0 := R5.out.cell 4
          simp only [List.getElem?_cons_succ, List.getElem?_cons_zero] at q0
          have M1c := Lib.hid (R5.out.drew.alloc (.cells #[.int .i64 kx, .int .i64 tx, .int .i64 sx, .int .i64 ix, .int .i64 fx, .int .i64 ox, .string bx] 42))
          have HOA := Lib.hid ((Own.drawn O5.out).alloc (.cells #[.int .i64 kx, .int .i64 tx, .int .i64 sx, .int .i64 ix, .int .i64 fx, .int .i64 ox, .string bx] 42))
          have RBA := Lib.hid (RowAt.new W5.drew 42 [.int .i64 kx, .int .i64 tx, .int .i64 sx, .int .i64 ix, .int .i64 fx, .int .i64 ox, .string bx])
          have NB := Lib.hid (show v.ownBlock ≠ some b from own_far O5.out R5.out (by decide))
          have hq1 : ∀ o, (W5.alloc o).cell? ⟨b, 4, none⟩ = some v := fun o => (R5.out.alloc o).cell 4
          have hx := BX5.out.cell
          have hbs : base ≤ W5.heap.size := by have := S5.out; omega
          have hsl : rows.length + 1 ≤ maxLen ∧ (rows.length + 1) * 64 ≤ 140737488355328 := by unfold maxLen; omega
          have HSL := Lib.hid hsl
          clear hsl
          go_wp2_with fail
          go_region_law
            ((refine push_step Row.cells 42 45 42 (.agg Row.zero.cells.toArray) 7 64 Try.underlying45 (by kernel_rfl) rfl (by decide) Row.cells_length row_one _ _ (by rfl) (by rfl) base v rows (⟨kx, tx, sx, ix, fx, ox, bx⟩ : Row) (by rfl) HOA.out W5.heap.size 1 (by rfl) RBA.out HSL.out.1 HSL.out.2 (by simp; omega) (W5.heap.size + 1) (by simp) ?_; intro g8 cap8 w8 o8 g8' l8 l9; have O8 := Lib.hid o8; have G8 := Lib.hid g8'; have L8 := Lib.hid l8; have L9 := Lib.hid l9; have M1d := Lib.hid (grown_far g8' NB.out M1c.out); have qf := M1d.out.frozen 4; have qc := M1d.out.cell 4; simp only [List.getElem?_cons_succ, List.getElem?_cons_zero] at qc; clear o8 g8' l8 l9))
          all_goals go_wp2_with fail
          all_goals go_ret
          all_goals
            have t6 : Turn (fun k => v.ownBlock = some k) W5 w8 := (Turn.of_below (((Below.refl W5.heap.size W5).drew).alloc (Nat.le_refl _) _) _).grown G8.out fun k hk => .inl hk
            have hRP : RP (w8.setCell ⟨b, 4, none⟩ (.slice (some ⟨g8, 0, none⟩) (rows.length + 1) cap8)) b base o bud (y + n2) (y + n2) (.slice (some ⟨g8, 0, none⟩) (rows.length + 1) cap8) (rows ++ [⟨kx, tx, sx, ix, fx, ox, bx⟩]) :=
              ⟨M1d.out.set 4 _, Own.turn O8.out (Turn.setCell (S := fun k => k = b) (p := ⟨b, 4, none⟩) (Turn.refl _ _) (.inl rfl) _) (fun k hk e => by
                have e9 : g8 = k := Option.some.inj hk
                have e10 : k = b := e
                rw [e10] at e9
                exact own_far O8.out M1d.out (by decide) (by rw [← e9]; rfl))⟩
            have hAt : ∀ k, (Value.slice (some ⟨g8, 0, none⟩) (rows.length + 1) cap8).ownBlock = some k → v.ownBlock = some k ∨ w.heap.size ≤ k := fun k hk => by
              have e9 : g8 = k := Option.some.inj hk
              subst e9
              have := S5.out
              rcases L8.out with h | h
              · exact .inl h
              · exact .inr (by omega)
            exact ⟨rfl, by first | exact ⟨_, hRP, hAt⟩ | exact ⟨_, _, hRP, hAt, by rw [if_pos hpm]⟩ | (rw [if_pos rfl]; exact ⟨_, _, hRP, hAt, by rw [if_pos hpm]⟩), (T5.out.trans (t6.mono (S' := fun k => k = b ∨ v.ownBlock = some k) fun _ _ e => .inr e)).setCell (p := ⟨b, 4, none⟩) (.inl (.inl rfl)) _⟩
        · have hpm' : y + (n2 : Int) ≤ pk := by omega
          go_wp2_with fail
          go_region
          have R5 := Lib.hid R3.out.drew
          have O5 := Lib.hid (Own.drawn O3.out)
          have BX5 := Lib.hid BX3.out.drew
          have T5 := Lib.hid T3.out.drew
          have S5 := Lib.hid (show w.heap.size + 1 ≤ W3.drew.heap.size from S3.out)
          clear hc3 hf3 R3 O3 BX3 T3 S3
          generalize W3.drew = W5 at R5 O5 BX5 T5 S5 ⊢
          have q0 := R5.out.cell 4
          simp only [List.getElem?_cons_succ, List.getElem?_cons_zero] at q0
          have M1c := Lib.hid (R5.out.drew.alloc (.cells #[.int .i64 kx, .int .i64 tx, .int .i64 sx, .int .i64 ix, .int .i64 fx, .int .i64 ox, .string bx] 42))
          have HOA := Lib.hid ((Own.drawn O5.out).alloc (.cells #[.int .i64 kx, .int .i64 tx, .int .i64 sx, .int .i64 ix, .int .i64 fx, .int .i64 ox, .string bx] 42))
          have RBA := Lib.hid (RowAt.new W5.drew 42 [.int .i64 kx, .int .i64 tx, .int .i64 sx, .int .i64 ix, .int .i64 fx, .int .i64 ox, .string bx])
          have NB := Lib.hid (show v.ownBlock ≠ some b from own_far O5.out R5.out (by decide))
          have hq1 : ∀ o, (W5.alloc o).cell? ⟨b, 4, none⟩ = some v := fun o => (R5.out.alloc o).cell 4
          have hx := BX5.out.cell
          have hbs : base ≤ W5.heap.size := by have := S5.out; omega
          have hsl : rows.length + 1 ≤ maxLen ∧ (rows.length + 1) * 64 ≤ 140737488355328 := by unfold maxLen; omega
          have HSL := Lib.hid hsl
          clear hsl
          go_wp2_with fail
          go_region_law
            ((refine push_step Row.cells 42 45 42 (.agg Row.zero.cells.toArray) 7 64 Try.underlying45 (by kernel_rfl) rfl (by decide) Row.cells_length row_one _ _ (by rfl) (by rfl) base v rows (⟨kx, tx, sx, ix, fx, ox, bx⟩ : Row) (by rfl) HOA.out W5.heap.size 1 (by rfl) RBA.out HSL.out.1 HSL.out.2 (by simp; omega) (W5.heap.size + 1) (by simp) ?_; intro g8 cap8 w8 o8 g8' l8 l9; have O8 := Lib.hid o8; have G8 := Lib.hid g8'; have L8 := Lib.hid l8; have L9 := Lib.hid l9; have M1d := Lib.hid (grown_far g8' NB.out M1c.out); have qf := M1d.out.frozen 4; have qc := M1d.out.cell 4; simp only [List.getElem?_cons_succ, List.getElem?_cons_zero] at qc; clear o8 g8' l8 l9))
          all_goals go_wp2_with fail
          all_goals go_ret
          all_goals
            have t6 : Turn (fun k => v.ownBlock = some k) W5 w8 := (Turn.of_below (((Below.refl W5.heap.size W5).drew).alloc (Nat.le_refl _) _) _).grown G8.out fun k hk => .inl hk
            have hRP : RP (w8.setCell ⟨b, 4, none⟩ (.slice (some ⟨g8, 0, none⟩) (rows.length + 1) cap8)) b base o bud (y + n2) (pk) (.slice (some ⟨g8, 0, none⟩) (rows.length + 1) cap8) (rows ++ [⟨kx, tx, sx, ix, fx, ox, bx⟩]) :=
              ⟨M1d.out.set 4 _, Own.turn O8.out (Turn.setCell (S := fun k => k = b) (p := ⟨b, 4, none⟩) (Turn.refl _ _) (.inl rfl) _) (fun k hk e => by
                have e9 : g8 = k := Option.some.inj hk
                have e10 : k = b := e
                rw [e10] at e9
                exact own_far O8.out M1d.out (by decide) (by rw [← e9]; rfl))⟩
            have hAt : ∀ k, (Value.slice (some ⟨g8, 0, none⟩) (rows.length + 1) cap8).ownBlock = some k → v.ownBlock = some k ∨ w.heap.size ≤ k := fun k hk => by
              have e9 : g8 = k := Option.some.inj hk
              subst e9
              have := S5.out
              rcases L8.out with h | h
              · exact .inl h
              · exact .inr (by omega)
            exact ⟨rfl, by first | exact ⟨_, hRP, hAt⟩ | exact ⟨_, _, hRP, hAt, by rw [if_neg hpm]⟩ | (rw [if_pos rfl]; exact ⟨_, _, hRP, hAt, by rw [if_neg hpm]⟩), (T5.out.trans (t6.mono (S' := fun k => k = b ∨ v.ownBlock = some k) fun _ _ e => .inr e)).setCell (p := ⟨b, 4, none⟩) (.inl (.inl rfl)) _⟩
end Go.Proofs.Ytmmfobbalhpomaa
