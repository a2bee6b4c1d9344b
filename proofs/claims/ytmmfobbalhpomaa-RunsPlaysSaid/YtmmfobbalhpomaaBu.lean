/- The buffer of rows: its memory and its methods. -/
import Derived.Test.YtmmfobbalhpomaaBf
namespace Go.Proofs.Ytmmfobbalhpomaa
set_option linter.unusedVariables false
set_option linter.unusedSimpArgs false
open Go.RowKit

structure BP (w : World) (b base : Nat) (o bud y pk : Int) (v : Value) (rows : List Row) : Prop where
  head : RowAt w b 63 [.int .i64 o, .int .i64 bud, .int .i64 y, .int .i64 pk, v]
  own : Own w base 30 7 Row.cells v rows
  ord : o = 1 ∨ o = 2
  len : (rows.length : Int) * 7 ≤ y
  le : y ≤ bud
  top : bud ≤ 16777216
  pk0 : 0 ≤ pk
  pkl : pk ≤ bud
section
variable {w w' : World} {b base : Nat} {o bud y pk : Int} {v : Value} {rows : List Row}
theorem BP.turn (H : BP w b base o bud y pk v rows) {S : Nat → Prop} (ht : Turn S w w') (h1 : ¬ S b) (h2 : ∀ k, v.ownBlock = some k → ¬ S k) : BP w' b base o bud y pk v rows :=
  ⟨H.head.turn ht h1, H.own.turn ht h2, H.ord, H.len, H.le, H.top, H.pk0, H.pkl⟩
theorem BP.below (H : BP w b base o bud y pk v rows) (hb : Below w.heap.size w w') : BP w' b base o bud y pk v rows := H.turn (Turn.of_below hb fun _ => False) id fun _ _ => id
theorem BP.vb (H : BP w b base o bud y pk v rows) : v.ownBlock ≠ some b := own_row H.own H.head (by decide)
end
theorem rows_at {w : World} {base : Nat} {A : Option Addr} {n cap : Nat} {rows : List Row} (h : Own w base 30 7 Row.cells (.slice A n cap) rows) : RowsAt w A rows := by
  rcases h.cases with ⟨e, rfl⟩ | ⟨g, cap', rest, e, -, -, -, hr⟩
  · intro i x hx; simp at hx
  · injection e with e1 e2 e3
    subst e1
    intro i x hx
    have hi : i < rows.length := (List.getElem?_eq_some_iff.1 hx).1
    refine ⟨g, 0, rfl, hr.lt, fun j hj => ?_⟩
    rw [Nat.zero_add, hr.cell, List.getElem?_append_left (by rw [flat_length Row.cells_length]; omega), flat_at Row.cells_length rows i j hj hx]
def addC (bud y : Int) (r : Row) : Int := if r.ok = true then if bud < sizeF r then 101 else if bud < y + sizeF r then 102 else 0 else 90
/-- What Add leaves. -/
def AddPost (b base : Nat) (o bud y pk : Int) (v : Value) (rows : List Row) (r : Row) (w : World) (e : Ending) (w' : World) : Prop :=
  e = .returned (.int .i64 (addC bud y r)) ∧ (if addC bud y r = 0 then ∃ v' pk', BP w' b base o bud (y + sizeF r) pk' v' (rows ++ [r]) ∧ (∀ k, v'.ownBlock = some k → v.ownBlock = some k ∨ w.heap.size ≤ k) ∧ pk' = (if pk < y + sizeF r then y + sizeF r else pk) else BP w' b base o bud y pk v rows) ∧ Turn (fun k => k = b ∨ v.ownBlock = some k) w w'
theorem bgrow_step {ops : Array Oper} {o : Oper} {a : Act} {K : Act → World → Prop} {Q : Exit → Act → World → Prop} {E : Prop} {W2 : World} {n base : Nat} {v : Value} {xs : List Row} (s : Row)
    (hgd : o.guard = none) (ho : o.op = .call { callee := .builtin .append, args := #[.tmp 54, .tmp 56], argTypes := #[31, 31] })
    (o2 : Own W2 base 30 7 Row.cells v xs) (hn : n = xs.length) (hs : a.eval (.tmp 54) = v) (hx : a.eval (.tmp 56) = .slice (some ⟨W2.heap.size, 0, none⟩) 1 1) (h4 : n < 16777216) (hbs : base ≤ W2.heap.size)
    (h : ∀ g' cap' w', w'.ownsRow base 30 7 (.slice (some ⟨g', 0, none⟩) (n + 1) cap') (n + 1) (xs.flatMap Row.cells ++ s.cells) → ((W2.drew).alloc (.cells s.cells.toArray 30)).grownBy w' v.ownBlock → (v.ownBlock = some g' ∨ g' = W2.heap.size + 1) → K (a.put o.dst (.slice (some ⟨g', 0, none⟩) (n + 1) cap')) w') :
    if Region.wanted o (yielded ops a.tmps) = true then Oper.wp Try.prog o a ((W2.drew).alloc (.cells s.cells.toArray 30)) K Q else E := by
  obtain ⟨i0, hi0, hz0, hz1, hz2⟩ := info30
  have o3 := (Own.drew o2).alloc (.cells s.cells.toArray 30)
  unfold Own at o3
  rw [← hn] at o3
  refine step_append_lies _ hgd _ _ _ ho base 30 i0 (.agg Row.zero.cells.toArray) 7 64 Try.underlying31 hi0 hz0 hz1 hz2 rfl (by decide) _ n _ hs o3 ⟨W2.heap.size, 0, none⟩ 1 1 s.cells hx rfl (new_cells W2 30 s.cells) ?_ (by decide) (by unfold maxLen; omega) (by omega) ?_ (W2.heap.size + 1) ?_ ?_
  · intro u hu
    simp [Row.cells] at hu
    rcases hu with rfl | rfl | rfl | rfl | rfl | rfl | rfl <;> rfl
  · have : ((W2.drew).alloc (.cells s.cells.toArray 30)).heap.size = W2.heap.size + 1 := (by simp : (W2.alloc (.cells s.cells.toArray 30)).heap.size = W2.heap.size + 1)
    omega
  · exact (by simp : (W2.alloc (.cells s.cells.toArray 30)).heap.size = W2.heap.size + 1)
  · intro g' cap' w' h1 h2 h3 _
    exact h g' cap' w' h1 h2 h3
set_option maxRecDepth 100000 in
set_option maxHeartbeats 6400000 in
theorem add_any (b base : Nat) (o bud y pk : Int) (v : Value) (rows : List Row) (r : Row) (w : World) (H : BP w b base o bud y pk v rows) (hbw : base ≤ w.heap.size) :
    Calls Try.prog 10 #[.pointer (some ⟨b, 0, none⟩), .agg r.cells.toArray] w (AddPost b base o bud y pk v rows r w) := by
  obtain ⟨z, hz⟩ : ∃ z, z = sizeF r := ⟨_, rfl⟩
  obtain ⟨res, hres⟩ : ∃ z, z = addC bud y r := ⟨_, rfl⟩
  have hsz := sizeF_le r
  have HR := Lib.hid hres
  have HZ := Lib.hid hz
  have HSZ := Lib.hid hsz
  have hlen := H.len
  have hle := H.le
  have htop := H.top
  have hpk0 := H.pk0
  have hpkl := H.pkl
  have hbl := H.head.lt
  unfold AddPost
  rw [← hres, ← hz]
  clear hsz hres
  have BX := Lib.hid (RowAt.new w 30 r.cells)
  have BW := Lib.hid ((Below.refl w.heap.size w).alloc (Nat.le_refl _) (.cells r.cells.toArray 30))
  have HH := Lib.hid H
  have H0 := Lib.hid (H.below BW.out)
  obtain ⟨kx, tx, sx, ix, fx, ox, bx⟩ := r
  clear H hz
  simp only [Row.cells] at BX BW H0 ⊢
  go_enter Try.func10, Try.ntmps10
  go_wp2_with fail
  refine (size_any ⟨kx, tx, sx, ix, fx, ox, bx⟩ _).mono ?_
  rintro e w1 ⟨rfl, hb1⟩
  rw [← HZ.out]
  have BX1 := Lib.hid (BX.out.below hb1)
  have H1 := Lib.hid (H0.out.below hb1)
  have B1 := Lib.hid (BW.out.trans (hb1.mono (by simp)))
  have hs1 := B1.out.size
  have hc := H1.out.head.cell
  clear hb1 BX BW H0
  cases hok : Row.ok ⟨kx, tx, sx, ix, fx, ox, bx⟩ with
  | false =>
    have e0 : z = 0 := by rw [HZ.out]; exact HSZ.out.2 hok
    have er : res = 90 := by rw [HR.out, addC, if_neg (by rw [hok]; decide)]
    subst e0
    subst er
    go_wp2
    go_ret
    exact ⟨rfl, by first | exact H1.out | (rw [if_neg (by decide)]; exact H1.out), Turn.of_below B1.out _⟩
  | true =>
    have hz7 : 7 ≤ z ∧ z ≤ 1000 := by rw [HZ.out]; exact HSZ.out.1 hok
    have er : res = if bud < z then 101 else if bud < y + z then 102 else 0 := by rw [HR.out, addC, if_pos hok, ← HZ.out]
    have hzz : (z == 0) = false := by simpa using (by omega : z ≠ 0)
    by_cases h1 : bud < z
    · have er2 : res = 101 := by rw [er, if_pos h1]
      clear er
      subst er2
      go_wp2
      go_ret
      exact ⟨rfl, by first | exact H1.out | (rw [if_neg (by decide)]; exact H1.out), Turn.of_below B1.out _⟩
    · by_cases h2 : bud < y + z
      · have er2 : res = 102 := by rw [er, if_neg h1, if_pos h2]
        clear er
        subst er2
        go_wp2_with fail
        go_quiet (fail)
        go_wp2
        go_ret
        exact ⟨rfl, by first | exact H1.out.turn ((Turn.refl (fun _ => False) _).drewN _) id (fun _ _ => id) | (rw [if_neg (by decide)]; exact H1.out.turn ((Turn.refl (fun _ => False) _).drewN _) id (fun _ _ => id)), (Turn.of_below B1.out _).drewN _⟩
      · have er2 : res = 0 := by rw [er, if_neg h1, if_neg h2]
        clear er
        subst er2
        have hy0 : 0 ≤ y := by omega
        have hyz : y + z ≤ bud := by omega
        have hfz := H1.out.head.frozen
        go_wp2_with fail
        go_quiet (fail)
        go_wp2_with fail
        have t3 : Turn (fun k => k = b) w1 ((w1.drewN nq).setCell ⟨b, 2, none⟩ (.int .i64 (y + z))) := ((Turn.refl (fun k => k = b) w1).drewN nq).setCell (p := ⟨b, 2, none⟩) (.inl rfl) _
        have h3 : RowAt ((w1.drewN nq).setCell ⟨b, 2, none⟩ (.int .i64 (y + z))) b 63 [.int .i64 o, .int .i64 bud, .int .i64 (y + z), .int .i64 pk, v] := (RowAt.like H1.out.head (w' := w1.drewN nq) rfl).set 2 (.int .i64 (y + z))
        have hvb := H1.out.vb
        have R3 := Lib.hid h3
        have O3 := Lib.hid (H1.out.own.turn t3 fun k hk e => hvb (by rw [hk, e]))
        have BX3 := Lib.hid (BX1.out.turn t3 (fun e => by omega))
        have T3 := Lib.hid ((Turn.of_below B1.out (fun k => k = b ∨ v.ownBlock = some k)).trans (t3.mono fun _ _ e => .inl e))
        have hs3 := t3.size
        clear t3 h3 hc hfz
        generalize (w1.drewN nq).setCell ⟨b, 2, none⟩ (.int .i64 (y + z)) = W3 at R3 O3 BX3 T3 hs3 ⊢
        have hc3 := R3.out.cell
        have hf3 := R3.out.frozen
        by_cases hpm : pk < y + z
        · -- the peak rises
          go_region
          have t5 : Turn (fun k => k = b) W3 (W3.setCell ⟨b, 3, none⟩ (.int .i64 (y + z))).drew := (Turn.setCell (S := fun k => k = b) (p := ⟨b, 3, none⟩) (Turn.refl _ _) (.inl rfl) _).drew
          have R5 := Lib.hid (show RowAt (W3.setCell ⟨b, 3, none⟩ (.int .i64 (y + z))).drew b 63 [.int .i64 o, .int .i64 bud, .int .i64 (y + z), .int .i64 (y + z), v] from RowAt.drew (R3.out.set 3 (.int .i64 (y + z))))
          have O5 := Lib.hid (O3.out.turn t5 fun k hk e => hvb (by rw [hk, e]))
          have BX5 := Lib.hid (BX3.out.turn t5 (fun e => by omega))
          have T5 := Lib.hid (T3.out.trans (t5.mono (S' := fun k => k = b ∨ v.ownBlock = some k) fun _ _ e => .inl e))
          have hs5 := t5.size
          clear t5 hc3 hf3
          generalize (W3.setCell ⟨b, 3, none⟩ (.int .i64 (y + z))).drew = W5 at R5 O5 BX5 T5 hs5 ⊢
          have q0 := R5.out.cell 4
          have q1 := R5.out.frozen 4
          have hx := BX5.out.cell
          have hal : ∀ o, (W5.alloc o).cell? ⟨b, 4, none⟩ = some v := fun o => (R5.out.alloc o).cell 4
          simp only [List.getElem?_cons_succ, List.getElem?_cons_zero] at q0
          have hbs : base ≤ W5.heap.size := by omega
          have hn : rows.length < 16777216 := by omega
          go_wp2_with fail
          go_region_law
            ((refine bgrow_step ⟨kx, tx, sx, ix, fx, ox, bx⟩ (by rfl) (by rfl) O5.out rfl (by rfl) (by rfl) hn hbs ?_; intro g' cap' w5 hown' hgrow hat; have D5 := Lib.hid (grown_row hgrow hvb ((RowAt.drew R5.out).alloc _)); have f9 := D5.out.frozen 4; have c9 : w5.cell? ⟨b, 4, none⟩ = some v := D5.out.cell 4))
          all_goals
            have t6 : Turn (fun k => v.ownBlock = some k) W5 w5 := (Turn.of_below (((Below.refl W5.heap.size W5).drew).alloc (Nat.le_refl _) _) _).grown hgrow fun k hk => .inl hk
            have o6 : Own w5 base 30 7 Row.cells (.slice (some ⟨g', 0, none⟩) (rows.length + 1) cap') (rows ++ [⟨kx, tx, sx, ix, fx, ox, bx⟩]) := Own.snoc hown'
            have hp : BP (w5.setCell ⟨b, 4, none⟩ (.slice (some ⟨g', 0, none⟩) (rows.length + 1) cap')) b base o bud (y + z) (y + z) (.slice (some ⟨g', 0, none⟩) (rows.length + 1) cap') (rows ++ [⟨kx, tx, sx, ix, fx, ox, bx⟩]) := by
              refine ⟨D5.out.set 4 _, o6.turn (S := fun k => k = b) (Turn.setCell (S := fun k => k = b) (p := ⟨b, 4, none⟩) (Turn.refl _ _) (.inl rfl) _) (fun k hk e => own_row o6 D5.out (by decide) (by rw [hk, e])), HH.out.ord, ?_, hyz, htop, by omega, by omega⟩
              rw [List.length_append, List.length_singleton]
              omega
            have HP5 := Lib.hid hp
            have HAT := Lib.hid (show ∀ k, (Value.slice (some ⟨g', 0, none⟩) (rows.length + 1) cap').ownBlock = some k → v.ownBlock = some k ∨ w.heap.size ≤ k from fun k hk => by
              have e9 : g' = k := Option.some.inj hk
              subst e9
              exact hat.imp id fun e => by omega)
            have T6 := Lib.hid ((T5.out.trans (t6.mono (S' := fun k => k = b ∨ v.ownBlock = some k) fun _ _ e => .inr e)).setCell (p := ⟨b, 4, none⟩) (.inl (.inl rfl)) (.slice (some ⟨g', 0, none⟩) (rows.length + 1) cap'))
            clear t6 o6 hp hown' hgrow hat f9 c9 D5 q0 q1 hx hal
            go_wp2
            go_ret
            exact ⟨rfl, by first | exact ⟨_, HP5.out, HAT.out⟩ | exact ⟨_, _, HP5.out, HAT.out, by rw [if_pos hpm]⟩ | (rw [if_pos rfl]; exact ⟨_, _, HP5.out, HAT.out, by rw [if_pos hpm]⟩), T6.out⟩
        · -- the peak stays
          go_region
          have t5 : Turn (fun k => k = b) W3 (W3.setCell ⟨b, 3, none⟩ (.int .i64 (pk))).drew := (Turn.setCell (S := fun k => k = b) (p := ⟨b, 3, none⟩) (Turn.refl _ _) (.inl rfl) _).drew
          have R5 := Lib.hid (show RowAt (W3.setCell ⟨b, 3, none⟩ (.int .i64 (pk))).drew b 63 [.int .i64 o, .int .i64 bud, .int .i64 (y + z), .int .i64 (pk), v] from RowAt.drew (R3.out.set 3 (.int .i64 (pk))))
          have O5 := Lib.hid (O3.out.turn t5 fun k hk e => hvb (by rw [hk, e]))
          have BX5 := Lib.hid (BX3.out.turn t5 (fun e => by omega))
          have T5 := Lib.hid (T3.out.trans (t5.mono (S' := fun k => k = b ∨ v.ownBlock = some k) fun _ _ e => .inl e))
          have hs5 := t5.size
          clear t5 hc3 hf3
          generalize (W3.setCell ⟨b, 3, none⟩ (.int .i64 (pk))).drew = W5 at R5 O5 BX5 T5 hs5 ⊢
          have q0 := R5.out.cell 4
          have q1 := R5.out.frozen 4
          have hx := BX5.out.cell
          have hal : ∀ o, (W5.alloc o).cell? ⟨b, 4, none⟩ = some v := fun o => (R5.out.alloc o).cell 4
          simp only [List.getElem?_cons_succ, List.getElem?_cons_zero] at q0
          have hbs : base ≤ W5.heap.size := by omega
          have hn : rows.length < 16777216 := by omega
          go_wp2_with fail
          go_region_law
            ((refine bgrow_step ⟨kx, tx, sx, ix, fx, ox, bx⟩ (by rfl) (by rfl) O5.out rfl (by rfl) (by rfl) hn hbs ?_; intro g' cap' w5 hown' hgrow hat; have D5 := Lib.hid (grown_row hgrow hvb ((RowAt.drew R5.out).alloc _)); have f9 := D5.out.frozen 4; have c9 : w5.cell? ⟨b, 4, none⟩ = some v := D5.out.cell 4))
          all_goals
            have t6 : Turn (fun k => v.ownBlock = some k) W5 w5 := (Turn.of_below (((Below.refl W5.heap.size W5).drew).alloc (Nat.le_refl _) _) _).grown hgrow fun k hk => .inl hk
            have o6 : Own w5 base 30 7 Row.cells (.slice (some ⟨g', 0, none⟩) (rows.length + 1) cap') (rows ++ [⟨kx, tx, sx, ix, fx, ox, bx⟩]) := Own.snoc hown'
            have hp : BP (w5.setCell ⟨b, 4, none⟩ (.slice (some ⟨g', 0, none⟩) (rows.length + 1) cap')) b base o bud (y + z) (pk) (.slice (some ⟨g', 0, none⟩) (rows.length + 1) cap') (rows ++ [⟨kx, tx, sx, ix, fx, ox, bx⟩]) := by
              refine ⟨D5.out.set 4 _, o6.turn (S := fun k => k = b) (Turn.setCell (S := fun k => k = b) (p := ⟨b, 4, none⟩) (Turn.refl _ _) (.inl rfl) _) (fun k hk e => own_row o6 D5.out (by decide) (by rw [hk, e])), HH.out.ord, ?_, hyz, htop, by omega, by omega⟩
              rw [List.length_append, List.length_singleton]
              omega
            have HP5 := Lib.hid hp
            have HAT := Lib.hid (show ∀ k, (Value.slice (some ⟨g', 0, none⟩) (rows.length + 1) cap').ownBlock = some k → v.ownBlock = some k ∨ w.heap.size ≤ k from fun k hk => by
              have e9 : g' = k := Option.some.inj hk
              subst e9
              exact hat.imp id fun e => by omega)
            have T6 := Lib.hid ((T5.out.trans (t6.mono (S' := fun k => k = b ∨ v.ownBlock = some k) fun _ _ e => .inr e)).setCell (p := ⟨b, 4, none⟩) (.inl (.inl rfl)) (.slice (some ⟨g', 0, none⟩) (rows.length + 1) cap'))
            clear t6 o6 hp hown' hgrow hat f9 c9 D5 q0 q1 hx hal
            go_wp2
            go_ret
            exact ⟨rfl, by first | exact ⟨_, HP5.out, HAT.out⟩ | exact ⟨_, _, HP5.out, HAT.out, by rw [if_neg hpm]⟩ | (rw [if_pos rfl]; exact ⟨_, _, HP5.out, HAT.out, by rw [if_neg hpm]⟩), T6.out⟩
end Go.Proofs.Ytmmfobbalhpomaa
