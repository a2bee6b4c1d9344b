/- One step of a script, on the tree and on the document's tree. -/
import Derived.Test.YtgcfpepaapdjoaaSim
import Derived.Test.YtgcfpepaapdjoaaQ
import Derived.Test.YtgcfpepaapdjoaaO
import Derived.Deep.RegionHeld3
import Derived.StillTailTactics
namespace Go.Proofs.Ytgcfpepaapdjoaa
set_option linter.unusedVariables false
set_option linter.unusedSimpArgs false
open Go.RowKit

/-- The blocks of the two trees. -/
structure Six where
  g : Nat
  bs : Nat
  bl : Nat
  r : Nat
  rs : Nat
  rr : Nat
def Six.own (z : Six) : Nat → Prop := fun b => (b = z.bl ∨ b = z.g ∨ b = z.bs) ∨ b = z.r ∨ b = z.rs ∨ b = z.rr
def Six.apart (z : Six) : Prop := ∃ B, z.g < B ∧ z.bs < B ∧ z.bl < B ∧ B ≤ z.r ∧ B ≤ z.rs ∧ B ≤ z.rr
structure Pair (z : Six) (o : Int) (w : World) (xs : List Src) (t : RT) : Prop where
  tr : Tr w z.g z.bs z.bl o xs
  rt : IsRT w z.r z.rs z.rr t
  sim : Sim o xs t
  apart : z.apart
theorem Pair.turn {z : Six} {o : Int} {w w' : World} {xs : List Src} {t : RT} (h : Pair z o w xs t) {S : Nat → Prop} (ht : Turn S w w') (hS : ∀ b, z.own b → ¬ S b) : Pair z o w' xs t := by
  refine ⟨h.tr.turn ht (hS _ ?_) (hS _ ?_) (hS _ ?_), h.rt.turn ht (hS _ ?_) (hS _ ?_) (hS _ ?_), h.sim, h.apart⟩
  all_goals unfold Six.own; simp
theorem Pair.below {z : Six} {o : Int} {w w' : World} {xs : List Src} {t : RT} (h : Pair z o w xs t) (hb : Below w.heap.size w w') : Pair z o w' xs t := h.turn (Turn.of_below hb fun _ => False) fun _ _ => id
theorem Pair.lt {z : Six} {o : Int} {w : World} {xs : List Src} {t : RT} (h : Pair z o w xs t) (b : Nat) (hb : z.own b) : b < w.heap.size := by
  have h1 := h.tr.lt
  have h2 := h.rt.main.lt
  have h3 := h.rt.st.lt
  have h4 := h.rt.rows.lt
  unfold Six.own at hb
  omega
theorem turn_three {z : Six} {w w' : World} (h : Turn (Three z.g z.bs z.bl) w w') : Turn z.own w w' := h.mono fun b _ hb => by unfold Three at hb; unfold Six.own; omega
theorem turn_two {z : Six} {w w' : World} (h : Turn (fun b => b = z.rs ∨ b = z.rr) w w') : Turn z.own w w' := h.mono fun b _ hb => by unfold Six.own; omega
/-- Both trees step. -/
theorem Pair.both {z : Six} {o : Int} {w w1 w2 w3 : World} {xs xs' : List Src} {t t' : RT} (h : Pair z o w xs t) (h1 : Tr w1 z.g z.bs z.bl o xs') (hb : Below w1.heap.size w1 w2)
    (h2 : IsRT w3 z.r z.rs z.rr t') (t2 : Turn (fun b => b = z.rs ∨ b = z.rr) w2 w3) (hs : Sim o xs' t') : Pair z o w3 xs' t' := by
  obtain ⟨B, b1, b2, b3, b4, b5, b6⟩ := h.apart
  exact ⟨(h1.below hb).turn t2 (by omega) (by omega) (by omega), h2, hs, h.apart⟩
theorem Pair.rtOf {z : Six} {o : Int} {w w1 : World} {xs : List Src} {t : RT} (h : Pair z o w xs t) (t1 : Turn (Three z.g z.bs z.bl) w w1) : IsRT w1 z.r z.rs z.rr t := by
  obtain ⟨B, b1, b2, b3, b4, b5, b6⟩ := h.apart
  exact h.rt.turn t1 (by unfold Three; omega) (by unfold Three; omega) (by unfold Three; omega)
def StepPost (z : Six) (o : Int) (w : World) (e : Ending) (w' : World) : Prop := e = .returned (.bool true) ∧ ∃ xs t, Pair z o w' xs t ∧ Turn z.own w w'
/-- The cells of an operation's row. -/
def opCells (w : World) (b : Nat) (k a : Int) (x : Row) : Prop :=
  w.cell? ⟨b, 1, none⟩ = some (.int .i64 a) ∧ w.cell? ⟨b, 2, none⟩ = some (.int .i64 x.kind) ∧ w.cell? ⟨b, 3, none⟩ = some (.int .i64 x.time) ∧ w.cell? ⟨b, 4, none⟩ = some (.int .i64 x.seq) ∧
    w.cell? ⟨b, 5, none⟩ = some (.int .i64 x.index) ∧ w.cell? ⟨b, 6, none⟩ = some (.int .i64 x.frm) ∧ w.cell? ⟨b, 7, none⟩ = some (.int .i64 x.to) ∧ w.cell? ⟨b, 8, none⟩ = some (.string x.body)
theorem opCells_of {w : World} {b : Nat} {k a : Int} {x : Row} (h : RowAt w b 40 (Op.cells ⟨k, a, x⟩)) : opCells w b k a x := by
  have := h.cell
  exact ⟨this 1, this 2, this 3, this 4, this 5, this 6, this 7, this 8⟩
abbrev opV (k a : Int) (x : Row) : Value := .agg #[.int .i64 k, .int .i64 a, .int .i64 x.kind, .int .i64 x.time, .int .i64 x.seq, .int .i64 x.index, .int .i64 x.frm, .int .i64 x.to, .string x.body]

set_option maxRecDepth 100000 in
set_option maxHeartbeats 3200000 in
theorem step_feed (z : Six) (o : Int) (xs : List Src) (t : RT) (a : Int) (x : Row) (w : World) (h : Pair z o w xs t) :
    Calls Try.prog 15 #[.pointer (some ⟨z.g, 0, none⟩), .pointer (some ⟨z.r, 0, none⟩), .agg #[.int .i64 1, .int .i64 a, .int .i64 x.kind, .int .i64 x.time, .int .i64 x.seq, .int .i64 x.index, .int .i64 x.frm, .int .i64 x.to, .string x.body]] w (StepPost z o w) := by
  have hu29 := Try.underlying29
  have hu40 := Try.underlying40
  have H0 := Lib.hid h
  have hf := h.sim.feed a x
  have hlt := Lib.hid h.lt
  clear h
  have F1 := Lib.hid hf.1
  have F2 := Lib.hid hf.2
  clear hf
  go_enter Try.func15, Try.ntmps15
  have R0 : RowAt (w.alloc (.cells #[.int .i64 1, .int .i64 a, .int .i64 x.kind, .int .i64 x.time, .int .i64 x.seq, .int .i64 x.index, .int .i64 x.frm, .int .i64 x.to, .string x.body] 40)) w.heap.size 40 (Op.cells ⟨1, a, x⟩) := RowAt.new' w w.heap.size 40 _ rfl
  have R := Lib.hid R0
  have B0 := (Below.refl w.heap.size w).alloc (Nat.le_refl _) (.cells #[.int .i64 1, .int .i64 a, .int .i64 x.kind, .int .i64 x.time, .int .i64 x.seq, .int .i64 x.index, .int .i64 x.frm, .int .i64 x.to, .string x.body] 40)
  have B := Lib.hid B0
  clear R0 B0
  go_wp2_with fail
  refine (tr_feed z.g z.bs z.bl o xs a x _ (H0.out.below B.out).tr).mono ?_
  rintro e w1 ⟨rfl, h1, t1⟩
  have hR1 : RowAt w1 w.heap.size 40 (Op.cells ⟨1, a, x⟩) := R.out.turn t1 (by have := hlt.out z.g (by simp [Six.own]); have := hlt.out z.bs (by simp [Six.own]); have := hlt.out z.bl (by simp [Six.own]); unfold Three; omega)
  have I1 := Lib.hid ((H0.out.below B.out).rtOf t1)
  have h1' := Lib.hid h1
  have t1' := Lib.hid t1
  have hRR := Lib.hid hR1
  rw [F1.out]
  clear h1 t1 hR1
  have hoc := opCells_of hRR.out
  unfold opCells at hoc
  go_wp2_with fail
  go_region_held3 (fun w' => w'.cell? ⟨w.heap.size, 1, none⟩ = some (.int .i64 a) ∧ w'.cell? ⟨w.heap.size, 2, none⟩ = some (.int .i64 x.kind) ∧ w'.cell? ⟨w.heap.size, 3, none⟩ = some (.int .i64 x.time) ∧ w'.cell? ⟨w.heap.size, 4, none⟩ = some (.int .i64 x.seq) ∧ w'.cell? ⟨w.heap.size, 5, none⟩ = some (.int .i64 x.index) ∧ w'.cell? ⟨w.heap.size, 6, none⟩ = some (.int .i64 x.frm) ∧ w'.cell? ⟨w.heap.size, 7, none⟩ = some (.int .i64 x.to) ∧ w'.cell? ⟨w.heap.size, 8, none⟩ = some (.string x.body)) (first | exact opCells_of hRR.out | exact opCells_of hRR.out.drew | exact opCells_of hR2.out | exact opCells_of hR3.out)
    (first
      | (go_at_call 18; refine (plain_any x _).mono ?_; rintro e w2 ⟨rfl, b2⟩; have hR2 := Lib.hid (hRR.out.drew.below b2); have b2' := Lib.hid b2)
      | (go_at_call 28; refine (rfeed_any z.r z.rs z.rr t a x _ (I1.out.drew.below b2'.out)).mono ?_; rintro e w3 ⟨rfl, i3, t3⟩; have hR3 := Lib.hid (hR2.out.turn t3 (by have := hlt.out z.rs (by simp [Six.own]); have := hlt.out z.rr (by simp [Six.own]); omega)); have i3' := Lib.hid i3; have t3' := Lib.hid t3))
  all_goals go_wp2
  all_goals go_ret
  all_goals have hb := (Below.refl w1.heap.size w1).drew.trans b2'.out
  all_goals exact ⟨by simp, _, _, (H0.out.below B.out).both h1'.out hb i3'.out t3'.out F2.out, (Turn.of_below B.out _).trans ((turn_three t1'.out).trans ((Turn.of_below hb _).trans (turn_two t3'.out)))⟩
set_option maxRecDepth 100000 in
set_option maxHeartbeats 3200000 in
theorem step_fin (z : Six) (o : Int) (xs : List Src) (t : RT) (a : Int) (x : Row) (w : World) (h : Pair z o w xs t) :
    Calls Try.prog 15 #[.pointer (some ⟨z.g, 0, none⟩), .pointer (some ⟨z.r, 0, none⟩), .agg #[.int .i64 2, .int .i64 a, .int .i64 x.kind, .int .i64 x.time, .int .i64 x.seq, .int .i64 x.index, .int .i64 x.frm, .int .i64 x.to, .string x.body]] w (StepPost z o w) := by
  have hu29 := Try.underlying29
  have hu40 := Try.underlying40
  have H0 := Lib.hid h
  have hlt := Lib.hid h.lt
  have hf := h.sim.fin a
  have F1 := Lib.hid hf.1
  have F2 := Lib.hid hf.2
  clear hf
  clear h
  go_enter Try.func15, Try.ntmps15
  have R0 : RowAt (w.alloc (.cells #[.int .i64 2, .int .i64 a, .int .i64 x.kind, .int .i64 x.time, .int .i64 x.seq, .int .i64 x.index, .int .i64 x.frm, .int .i64 x.to, .string x.body] 40)) w.heap.size 40 (Op.cells ⟨2, a, x⟩) := RowAt.new' w w.heap.size 40 _ rfl
  have R := Lib.hid R0
  have B0 := (Below.refl w.heap.size w).alloc (Nat.le_refl _) (.cells #[.int .i64 2, .int .i64 a, .int .i64 x.kind, .int .i64 x.time, .int .i64 x.seq, .int .i64 x.index, .int .i64 x.frm, .int .i64 x.to, .string x.body] 40)
  have B := Lib.hid B0
  clear R0 B0
  go_wp2_with fail
  refine (tr_finish z.g z.bs z.bl o xs a _ (H0.out.below B.out).tr).mono ?_
  rintro e w1 ⟨rfl, h1, t1⟩
  have hR1 : RowAt w1 w.heap.size 40 (Op.cells ⟨2, a, x⟩) := R.out.turn t1 (by have := hlt.out z.g (by simp [Six.own]); have := hlt.out z.bs (by simp [Six.own]); have := hlt.out z.bl (by simp [Six.own]); unfold Three; omega)
  have I1 := Lib.hid ((H0.out.below B.out).rtOf t1)
  have h1' := Lib.hid h1
  have t1' := Lib.hid t1
  have hRR := Lib.hid hR1
  rw [F1.out]
  clear h1 t1 hR1
  have hoc := opCells_of hRR.out
  unfold opCells at hoc
  go_wp2_with fail
  refine (rfinish_any z.r z.rs z.rr t a _ I1.out).mono ?_
  rintro e w3 ⟨rfl, i3, t3⟩
  have i3' := Lib.hid i3
  have t3' := Lib.hid t3
  clear i3 t3 hoc
  go_wp2
  go_ret
  have hb := Below.refl w1.heap.size w1
  exact ⟨by simp, _, _, (H0.out.below B.out).both h1'.out hb i3'.out t3'.out F2.out, (Turn.of_below B.out _).trans ((turn_three t1'.out).trans (turn_two t3'.out))⟩
set_option maxRecDepth 100000 in
set_option maxHeartbeats 3200000 in
theorem step_else (z : Six) (o : Int) (xs : List Src) (t : RT) (k : Int) (hk1 : (k == 1) = false) (hk2 : (k == 2) = false) (hk3 : (k == 3) = false) (hk4 : (k == 4) = false) (hk5 : (k == 5) = false) (a : Int) (x : Row) (w : World) (h : Pair z o w xs t) :
    Calls Try.prog 15 #[.pointer (some ⟨z.g, 0, none⟩), .pointer (some ⟨z.r, 0, none⟩), .agg #[.int .i64 k, .int .i64 a, .int .i64 x.kind, .int .i64 x.time, .int .i64 x.seq, .int .i64 x.index, .int .i64 x.frm, .int .i64 x.to, .string x.body]] w (StepPost z o w) := by
  have hu29 := Try.underlying29
  have hu40 := Try.underlying40
  have H0 := Lib.hid h
  have hlt := Lib.hid h.lt
  clear h
  go_enter Try.func15, Try.ntmps15
  have R0 : RowAt (w.alloc (.cells #[.int .i64 k, .int .i64 a, .int .i64 x.kind, .int .i64 x.time, .int .i64 x.seq, .int .i64 x.index, .int .i64 x.frm, .int .i64 x.to, .string x.body] 40)) w.heap.size 40 (Op.cells ⟨k, a, x⟩) := RowAt.new' w w.heap.size 40 _ rfl
  have R := Lib.hid R0
  have B0 := (Below.refl w.heap.size w).alloc (Nat.le_refl _) (.cells #[.int .i64 k, .int .i64 a, .int .i64 x.kind, .int .i64 x.time, .int .i64 x.seq, .int .i64 x.index, .int .i64 x.frm, .int .i64 x.to, .string x.body] 40)
  have B := Lib.hid B0
  clear R0 B0
  go_wp2
  go_ret
  exact ⟨rfl, _, _, H0.out.below B.out, Turn.of_below B.out _⟩
theorem two_of {w' : World} {b c : Nat} {qx : Row} (h : RowAt w' b 29 qx.cells) (h' : RowAt w' c 45 qx.cells) : w'.cell? ⟨b, 0, none⟩ = some (.int .i64 qx.kind) ∧ w'.cell? ⟨b, 1, none⟩ = some (.int .i64 qx.time) ∧ w'.cell? ⟨b, 2, none⟩ = some (.int .i64 qx.seq) ∧ w'.cell? ⟨b, 3, none⟩ = some (.int .i64 qx.index) ∧ w'.cell? ⟨b, 4, none⟩ = some (.int .i64 qx.frm) ∧ w'.cell? ⟨b, 5, none⟩ = some (.int .i64 qx.to) ∧ w'.cell? ⟨b, 6, none⟩ = some (.string qx.body) ∧ w'.cell? ⟨c, 0, none⟩ = some (.int .i64 qx.kind) ∧ w'.cell? ⟨c, 1, none⟩ = some (.int .i64 qx.time) ∧ w'.cell? ⟨c, 2, none⟩ = some (.int .i64 qx.seq) ∧ w'.cell? ⟨c, 3, none⟩ = some (.int .i64 qx.index) ∧ w'.cell? ⟨c, 4, none⟩ = some (.int .i64 qx.frm) ∧ w'.cell? ⟨c, 5, none⟩ = some (.int .i64 qx.to) ∧ w'.cell? ⟨c, 6, none⟩ = some (.string qx.body) := by
  have h := h.cell
  have h' := h'.cell
  exact ⟨h 0, h 1, h 2, h 3, h 4, h 5, h 6, h' 0, h' 1, h' 2, h' 3, h' 4, h' 5, h' 6⟩
attribute [local go_sem high] eqA45
set_option maxRecDepth 100000 in
set_option maxHeartbeats 3200000 in
theorem step_win (z : Six) (o : Int) (xs : List Src) (t : RT) (a : Int) (x : Row) (w : World) (h : Pair z o w xs t) :
    Calls Try.prog 15 #[.pointer (some ⟨z.g, 0, none⟩), .pointer (some ⟨z.r, 0, none⟩), .agg #[.int .i64 3, .int .i64 a, .int .i64 x.kind, .int .i64 x.time, .int .i64 x.seq, .int .i64 x.index, .int .i64 x.frm, .int .i64 x.to, .string x.body]] w (StepPost z o w) := by
  have hu29 := Try.underlying29
  have hu40 := Try.underlying40
  have H0 := Lib.hid h
  have hlt := Lib.hid h.lt
  have hf := h.sim.win h.tr.le.2.2 h.tr.le.1 h.tr.st
  have F1 := Lib.hid hf.1
  have F2 := Lib.hid hf.2
  clear hf
  clear h
  go_enter Try.func15, Try.ntmps15
  have R0 : RowAt (w.alloc (.cells #[.int .i64 3, .int .i64 a, .int .i64 x.kind, .int .i64 x.time, .int .i64 x.seq, .int .i64 x.index, .int .i64 x.frm, .int .i64 x.to, .string x.body] 40)) w.heap.size 40 (Op.cells ⟨3, a, x⟩) := RowAt.new' w w.heap.size 40 _ rfl
  have R := Lib.hid R0
  have B0 := (Below.refl w.heap.size w).alloc (Nat.le_refl _) (.cells #[.int .i64 3, .int .i64 a, .int .i64 x.kind, .int .i64 x.time, .int .i64 x.seq, .int .i64 x.index, .int .i64 x.frm, .int .i64 x.to, .string x.body] 40)
  have B := Lib.hid B0
  clear R0 B0
  go_wp2_with fail
  refine (tr_win z.g z.bs z.bl o xs _ (H0.out.below B.out).tr).mono ?_
  rintro e w1 ⟨rfl, h1, t1⟩
  have I1 := Lib.hid ((H0.out.below B.out).rtOf t1)
  have h1' := Lib.hid h1
  have t1' := Lib.hid t1
  rw [F1.out]
  clear h1 t1
  obtain ⟨q, hq⟩ : ∃ q, q = t.winF := ⟨_, rfl⟩
  rw [← hq] at F1 F2 ⊢
  have HQ := Lib.hid hq
  clear hq
  obtain ⟨⟨qi, qx, qe⟩, qt⟩ := q
  simp only
  go_wp2_with fail
  refine (rwin_any z.r z.rs z.rr t _ (I1.out.below ((Below.refl w1.heap.size w1).alloc (Nat.le_refl _) _))).mono ?_
  rintro e w3 hP
  rw [← HQ.out] at hP
  obtain ⟨rfl, i3, t3⟩ := hP
  have i3' := Lib.hid i3
  have t3' := Lib.hid t3
  simp only
  clear i3 t3
  go_wp2_with fail
  have hA : RowAt (w3.alloc (.cells #[.int .i64 qx.kind, .int .i64 qx.time, .int .i64 qx.seq, .int .i64 qx.index, .int .i64 qx.frm, .int .i64 qx.to, .string qx.body] 45)) w1.heap.size 29 qx.cells := by
    refine RowAt.alloc ((RowAt.new' w1 w1.heap.size 29 qx.cells rfl).turn t3'.out ?_) _
    have := I1.out.st.lt
    have := I1.out.rows.lt
    omega
  have hB : RowAt (w3.alloc (.cells #[.int .i64 qx.kind, .int .i64 qx.time, .int .i64 qx.seq, .int .i64 qx.index, .int .i64 qx.frm, .int .i64 qx.to, .string qx.body] 45)) w3.heap.size 45 qx.cells := RowAt.new' w3 w3.heap.size 45 qx.cells rfl
  have C0 := (Below.refl w3.heap.size w3).alloc (Nat.le_refl _) (.cells #[.int .i64 qx.kind, .int .i64 qx.time, .int .i64 qx.seq, .int .i64 qx.index, .int .i64 qx.frm, .int .i64 qx.to, .string qx.body] 45)
  have C := Lib.hid C0
  have hA1 := Lib.hid hA
  have hB1 := Lib.hid hB
  clear hA hB C0
  generalize w3.alloc (.cells #[.int .i64 qx.kind, .int .i64 qx.time, .int .i64 qx.seq, .int .i64 qx.index, .int .i64 qx.frm, .int .i64 qx.to, .string qx.body] 45) = W at hA1 hB1 C ⊢
  have hab := two_of hA1.out hB1.out
  go_region_held3 (fun w' => w'.cell? ⟨w1.heap.size, 0, none⟩ = some (.int .i64 qx.kind) ∧ w'.cell? ⟨w1.heap.size, 1, none⟩ = some (.int .i64 qx.time) ∧ w'.cell? ⟨w1.heap.size, 2, none⟩ = some (.int .i64 qx.seq) ∧ w'.cell? ⟨w1.heap.size, 3, none⟩ = some (.int .i64 qx.index) ∧ w'.cell? ⟨w1.heap.size, 4, none⟩ = some (.int .i64 qx.frm) ∧ w'.cell? ⟨w1.heap.size, 5, none⟩ = some (.int .i64 qx.to) ∧ w'.cell? ⟨w1.heap.size, 6, none⟩ = some (.string qx.body) ∧ w'.cell? ⟨w3.heap.size, 0, none⟩ = some (.int .i64 qx.kind) ∧ w'.cell? ⟨w3.heap.size, 1, none⟩ = some (.int .i64 qx.time) ∧ w'.cell? ⟨w3.heap.size, 2, none⟩ = some (.int .i64 qx.seq) ∧ w'.cell? ⟨w3.heap.size, 3, none⟩ = some (.int .i64 qx.index) ∧ w'.cell? ⟨w3.heap.size, 4, none⟩ = some (.int .i64 qx.frm) ∧ w'.cell? ⟨w3.heap.size, 5, none⟩ = some (.int .i64 qx.to) ∧ w'.cell? ⟨w3.heap.size, 6, none⟩ = some (.string qx.body)) (first | exact two_of hA1.out hB1.out | exact two_of hA1.out.drew hB1.out.drew | exact two_of hA2.out hB2.out)
    (first
      | (go_at_call 18; refine (plain_any qx _).mono ?_; rintro e w4 ⟨rfl, b4⟩; have hA2 := Lib.hid (hA1.out.drew.below b4); have hB2 := Lib.hid (hB1.out.drew.below b4); have b4' := Lib.hid b4))
  all_goals go_wp2
  all_goals go_ret
  all_goals have hb := (Below.refl w1.heap.size w1).alloc (Nat.le_refl _) (.cells #[.int .i64 qx.kind, .int .i64 qx.time, .int .i64 qx.seq, .int .i64 qx.index, .int .i64 qx.frm, .int .i64 qx.to, .string qx.body] 29)
  all_goals have hP := (H0.out.below B.out).both h1'.out hb i3'.out t3'.out F2.out
  all_goals have hD := C.out.trans ((Below.refl W.heap.size W).drew.trans b4'.out |>.mono C.out.size)
  all_goals exact ⟨by simp [Row.eqb_self], _, _, hP.below hD, (Turn.of_below B.out _).trans ((turn_three t1'.out).trans ((Turn.of_below hb _).trans ((turn_two t3'.out).trans (Turn.of_below hD _))))⟩
theorem op_of {w w' : World} {gv y : Nat} {k a : Int} {x : Row} (h : RowAt w' w.heap.size 40 (Op.cells ⟨k, a, x⟩)) (h' : w'.cell? ⟨gv, 0, none⟩ = some (.int .i64 (y : Nat))) : w'.cell? ⟨w.heap.size, 1, none⟩ = some (.int .i64 a) ∧ w'.cell? ⟨w.heap.size, 2, none⟩ = some (.int .i64 x.kind) ∧ w'.cell? ⟨w.heap.size, 3, none⟩ = some (.int .i64 x.time) ∧ w'.cell? ⟨w.heap.size, 4, none⟩ = some (.int .i64 x.seq) ∧ w'.cell? ⟨w.heap.size, 5, none⟩ = some (.int .i64 x.index) ∧ w'.cell? ⟨w.heap.size, 6, none⟩ = some (.int .i64 x.frm) ∧ w'.cell? ⟨w.heap.size, 7, none⟩ = some (.int .i64 x.to) ∧ w'.cell? ⟨w.heap.size, 8, none⟩ = some (.string x.body) ∧ w'.cell? ⟨gv, 0, none⟩ = some (.int .i64 (y : Nat)) := by
  have h := h.cell
  exact ⟨h 1, h 2, h 3, h 4, h 5, h 6, h 7, h 8, h'⟩
theorem cell_turn {S : Nat → Prop} {w w' : World} (ht : Turn S w w') {p : Addr} {v : Value} (hs : ¬ S p.block) (h : w.cell? p = some v) : w'.cell? p = some v := by
  have hlt := World.block_lt_of_cell? _ _ h
  have := ht.block p.block hlt hs
  unfold World.cell? at h ⊢
  rw [this]
  exact h
theorem own_view {w : World} {base : Nat} {v : Value} {L : List Nat} (h : Own w base 3 1 natCell v L) :
    ∃ A cap, v = .slice A L.length cap ∧ ∀ i x, L[i]? = some x → ∃ g, A = some ⟨g, 0, none⟩ ∧ base ≤ g ∧ w.cell? ⟨g, i, none⟩ = some (.int .i64 (x : Nat)) := by
  rcases h.cases with ⟨rfl, rfl⟩ | ⟨g, cap, rest, rfl, hb, -, -, hr⟩
  · exact ⟨_, _, rfl, fun i x hx => by simp at hx⟩
  · refine ⟨_, _, rfl, fun i x hx => ⟨g, rfl, hb, ?_⟩⟩
    have hi : i < L.length := (List.getElem?_eq_some_iff.1 hx).1
    rw [hr.cell, List.getElem?_append_left (by rw [natCells]; simpa using hi), natCells, List.getElem?_map, hx]
    rfl
set_option maxRecDepth 100000 in
set_option maxHeartbeats 3200000 in
theorem step_waits (z : Six) (o : Int) (xs : List Src) (t : RT) (a : Int) (x : Row) (w : World) (h : Pair z o w xs t) :
    Calls Try.prog 15 #[.pointer (some ⟨z.g, 0, none⟩), .pointer (some ⟨z.r, 0, none⟩), .agg #[.int .i64 4, .int .i64 a, .int .i64 x.kind, .int .i64 x.time, .int .i64 x.seq, .int .i64 x.index, .int .i64 x.frm, .int .i64 x.to, .string x.body]] w (StepPost z o w) := by
  have hu29 := Try.underlying29
  have hu40 := Try.underlying40
  have H0 := Lib.hid h
  have hlt := Lib.hid h.lt
  have hf := Lib.hid h.sim.waits
  clear h
  go_enter Try.func15, Try.ntmps15
  have R0 : RowAt (w.alloc (.cells #[.int .i64 4, .int .i64 a, .int .i64 x.kind, .int .i64 x.time, .int .i64 x.seq, .int .i64 x.index, .int .i64 x.frm, .int .i64 x.to, .string x.body] 40)) w.heap.size 40 (Op.cells ⟨4, a, x⟩) := RowAt.new' w w.heap.size 40 _ rfl
  have R := Lib.hid R0
  have B0 := (Below.refl w.heap.size w).alloc (Nat.le_refl _) (.cells #[.int .i64 4, .int .i64 a, .int .i64 x.kind, .int .i64 x.time, .int .i64 x.seq, .int .i64 x.index, .int .i64 x.frm, .int .i64 x.to, .string x.body] 40)
  have B := Lib.hid B0
  clear R0 B0
  go_wp2_with fail
  refine (tr_waiting z.g z.bs z.bl o xs _ (H0.out.below B.out).tr).mono ?_
  rw [hf.out]
  rintro e w1 ⟨v, rfl, o1, b1⟩
  have B1 := Lib.hid (B.out.trans (b1.mono B.out.size))
  have O1 := Lib.hid o1
  clear o1 b1
  go_wp2_with fail
  refine (rwaiting_any z.r z.rs z.rr t _ (H0.out.below B1.out).rt).mono ?_
  rintro e w2 ⟨v', rfl, o2, b2⟩
  have HB2 := Lib.hid (B1.out.trans (b2.mono B1.out.size))
  obtain ⟨L, hL⟩ : ∃ L, L = waitsR t.st t.st.length := ⟨_, rfl⟩
  have hLl : L.length ≤ 64 := by have := waitsR_length t.st t.st.length; have := H0.out.rt.le; rw [hL]; omega
  rw [← hL] at o2 O1
  obtain ⟨A, cap, rfl, hA⟩ := own_view (O1.out.below b2)
  obtain ⟨A', cap', rfl, hA'⟩ := own_view o2
  have HA := Lib.hid hA
  have HA' := Lib.hid hA'
  clear hA hA' o2 b2 O1 hL hf
  go_wp2
  go_loopw [93] (fun i wr => ∃ k : Nat, i = .int .i64 k ∧ k ≤ L.length ∧ wr = w2) (fun i _ => L.length - (intOf i).toNat)
  case atStart => exact ⟨0, rfl, by omega, rfl⟩
  case round =>
    obtain ⟨k, rfl, hk, rfl⟩ := hrel
    by_cases hlt' : k < L.length
    · obtain ⟨y, hy⟩ : ∃ y, L[k]? = some y := ⟨_, List.getElem?_eq_getElem hlt'⟩
      obtain ⟨g1, rfl, -, hc1⟩ := HA.out k y hy
      obtain ⟨g2, rfl, -, hc2⟩ := HA'.out k y hy
      go_wp2
      go_roundw
      case rel => exact ⟨k + 1, by go_num, by omega, trivial⟩
      case measure => simp [intOf]; omega
    · go_wp2
      go_ret
      exact ⟨rfl, _, _, H0.out.below HB2.out, Turn.of_below HB2.out _⟩
set_option maxRecDepth 100000 in
set_option maxHeartbeats 3200000 in
theorem step_top (z : Six) (o : Int) (xs : List Src) (t : RT) (a : Int) (x : Row) (w : World) (h : Pair z o w xs t) :
    Calls Try.prog 15 #[.pointer (some ⟨z.g, 0, none⟩), .pointer (some ⟨z.r, 0, none⟩), .agg #[.int .i64 5, .int .i64 a, .int .i64 x.kind, .int .i64 x.time, .int .i64 x.seq, .int .i64 x.index, .int .i64 x.frm, .int .i64 x.to, .string x.body]] w (StepPost z o w) := by
  have hu29 := Try.underlying29
  have hu40 := Try.underlying40
  have H0 := Lib.hid h
  have hlt := Lib.hid h.lt
  have hf := Lib.hid h.sim.feed
  clear h
  go_enter Try.func15, Try.ntmps15
  have R0 : RowAt (w.alloc (.cells #[.int .i64 5, .int .i64 a, .int .i64 x.kind, .int .i64 x.time, .int .i64 x.seq, .int .i64 x.index, .int .i64 x.frm, .int .i64 x.to, .string x.body] 40)) w.heap.size 40 (Op.cells ⟨5, a, x⟩) := RowAt.new' w w.heap.size 40 _ rfl
  have R := Lib.hid R0
  have B0 := (Below.refl w.heap.size w).alloc (Nat.le_refl _) (.cells #[.int .i64 5, .int .i64 a, .int .i64 x.kind, .int .i64 x.time, .int .i64 x.seq, .int .i64 x.index, .int .i64 x.frm, .int .i64 x.to, .string x.body] 40)
  have B := Lib.hid B0
  clear R0 B0
  go_wp2_with fail
  refine (rwaiting_any z.r z.rs z.rr t _ (H0.out.below B.out).rt).mono ?_
  rintro e w1 ⟨v, rfl, o1, b1⟩
  have B1 := Lib.hid (B.out.trans (b1.mono B.out.size))
  obtain ⟨L, hL⟩ : ∃ L, L = waitsR t.st t.st.length := ⟨_, rfl⟩
  have hLl : L.length ≤ 64 := by have := waitsR_length t.st t.st.length; have := H0.out.rt.le; rw [hL]; omega
  rw [← hL] at o1
  have R1 := Lib.hid (R.out.below b1)
  have ho := o1.cases
  obtain ⟨A, cap, rfl, hA⟩ := own_view o1
  have HA := Lib.hid hA
  clear hA o1 b1 hL ho
  cases hc : L with
  | nil =>
    subst hc
    simp only [List.length_nil]
    go_wp2
    go_ret
    exact ⟨rfl, _, _, H0.out.below B1.out, Turn.of_below B1.out _⟩
  | cons y L' =>
    obtain ⟨gv, rfl, hgb, hgc⟩ := HA.out 0 y (by rw [hc]; rfl)
    have HGC := Lib.hid hgc
    rw [hc] at hLl
    clear HA
    simp only [List.length_cons] at hLl ⊢
    have hoc := opCells_of R1.out
    unfold opCells at hoc
    have hws : w.heap.size < w1.heap.size := R1.out.lt
    have hgs : gv < w1.heap.size := World.block_lt_of_cell? _ _ hgc
    go_wp2_with fail
    refine wp_region_still_tail 6 (by kernel_rfl) (by kernel_rfl) ?_
    simp only [List.take_succ_cons, List.take_zero, List.drop_succ_cons, List.drop_zero]
    repeat still_step
    refine wpStill_nil ?_
    change wpList _ _ _ _ _ w1.drew
    have B2 := Lib.hid (B1.out.drew)
    have R2 := Lib.hid R1.out.drew
    have G2 := Lib.hid (show w1.drew.cell? ⟨gv, 0, none⟩ = _ from hgc)
    generalize w1.drew = W2 at B2 R2 G2 ⊢
    clear hoc hgc
    go_wp2_with fail
    have hf1 := (hf.out (y : Int) x).1
    have hf2 := Lib.hid (hf.out (y : Int) x).2
    refine (tr_feed z.g z.bs z.bl o xs (y : Int) x _ (H0.out.below B2.out).tr).mono ?_
    rintro e w3 ⟨rfl, h3, t3⟩
    rw [hf1]
    have q1 := hlt.out z.g (by simp [Six.own])
    have q2 := hlt.out z.bs (by simp [Six.own])
    have q3 := hlt.out z.bl (by simp [Six.own])
    have q4 := hlt.out z.rs (by simp [Six.own])
    have q5 := hlt.out z.rr (by simp [Six.own])
    have hwb : w.heap.size ≤ gv := Nat.le_trans B.out.size hgb
    have RR := Lib.hid (R2.out.turn t3 (by unfold Three; omega))
    have GG := Lib.hid (cell_turn t3 (by show ¬ (gv = z.bl ∨ gv = z.g ∨ gv = z.bs); omega) G2.out)
    have I3 := Lib.hid ((H0.out.below B2.out).rtOf t3)
    have h3' := Lib.hid h3
    have t3' := Lib.hid t3
    have hoc := op_of RR.out GG.out
    clear hf1 h3 t3
    go_wp2_with fail
    go_region_held3 (fun w' => w'.cell? ⟨w.heap.size, 1, none⟩ = some (.int .i64 a) ∧ w'.cell? ⟨w.heap.size, 2, none⟩ = some (.int .i64 x.kind) ∧ w'.cell? ⟨w.heap.size, 3, none⟩ = some (.int .i64 x.time) ∧ w'.cell? ⟨w.heap.size, 4, none⟩ = some (.int .i64 x.seq) ∧ w'.cell? ⟨w.heap.size, 5, none⟩ = some (.int .i64 x.index) ∧ w'.cell? ⟨w.heap.size, 6, none⟩ = some (.int .i64 x.frm) ∧ w'.cell? ⟨w.heap.size, 7, none⟩ = some (.int .i64 x.to) ∧ w'.cell? ⟨w.heap.size, 8, none⟩ = some (.string x.body) ∧ w'.cell? ⟨gv, 0, none⟩ = some (.int .i64 (y : Nat))) (first | exact op_of RR.out GG.out | exact op_of RR.out.drew GG.out | exact op_of RR4.out GG4.out | exact op_of RR5.out GG5.out)
      (first
        | (go_at_call 18; refine (plain_any x _).mono ?_; rintro e w4 ⟨rfl, b4⟩; have RR4 := Lib.hid (RR.out.drew.below b4); have GG4 := Lib.hid (cell_turn (Turn.of_below b4 (fun _ => False)) id GG.out); have b4' := Lib.hid b4)
        | (go_at_call 28; refine (rfeed_any z.r z.rs z.rr t (y : Int) x _ (I3.out.drew.below b4'.out)).mono ?_; rintro e w5 ⟨rfl, i5, t5⟩; have RR5 := Lib.hid (RR4.out.turn t5 (by omega)); have GG5 := Lib.hid (cell_turn t5 (by show ¬ (gv = z.rs ∨ gv = z.rr); omega) GG4.out); have i5' := Lib.hid i5; have t5' := Lib.hid t5))
    all_goals go_wp2
    all_goals go_ret
    all_goals have hb := (Below.refl w3.heap.size w3).drew.trans b4'.out
    all_goals exact ⟨by simp, _, _, (H0.out.below B2.out).both h3'.out hb i5'.out t5'.out hf2.out, (Turn.of_below B2.out _).trans ((turn_three t3'.out).trans ((Turn.of_below hb _).trans (turn_two t5'.out)))⟩
end Go.Proofs.Ytgcfpepaapdjoaa
