/- What a stop tells, and a game: a tree of stops, the law's list of them and the document's tree. -/
import Derived.Test.YtcfdpeafnpeddaaDC
import Derived.Deep.RegionHeld3
namespace Go.Proofs.Ytcfdpeafnpeddaa
set_option linter.unusedVariables false
set_option linter.unusedSimpArgs false
open Go.Conc Go.RowKit Go.MuLone

set_option maxRecDepth 100000 in
set_option maxHeartbeats 1600000 in
theorem told_any (x : Pl) (st : List St) (i : Nat) (s : St) (hs : s = ns st i) (w : World) (h : HT w x 0 st) (hi : i < st.length) :
    Calls Try.prog 21 #[.pointer (some ⟨x.B i, 0, none⟩), .agg s.cells.toArray] w fun e w' => e = .returned (.bool true) ∧ HT w' x 0 st ∧ Turn (x.own st.length) w w' := by
  obtain ⟨p, l, c⟩ := s
  have hl : (ns st i).left = l := by rw [← hs]
  have hc : (ns st i).cause = c := by rw [← hs]
  have bx := RowAt.new w 48 (St.cells ⟨p, l, c⟩)
  have h0 := h.below ((Below.refl w.heap.size w).alloc (Nat.le_refl _) (.cells (St.cells ⟨p, l, c⟩).toArray 48))
  have t0 := (Turn.refl (x.own st.length) w).alloc (.cells (St.cells ⟨p, l, c⟩).toArray 48)
  have h0d := h0.turn ((Turn.refl (fun _ => False) _).drew) (fun _ _ => id)
  have hn : ¬ x.own st.length w.heap.size := fun hx => by have := h.lt _ hx; omega
  have BX := Lib.hid bx
  have H0 := Lib.hid h0
  have T0 := Lib.hid t0
  have HN := Lib.hid hn
  have HL := Lib.hid hl
  have HC := Lib.hid hc
  have c1 := bx.cell 1
  have c2 := bx.cell 2
  simp only [St.cells, List.getElem?_cons_succ, List.getElem?_cons_zero] at c1 c2
  clear bx h0 t0 hn h hs hl hc
  simp only [St.cells] at BX H0 T0 c1 c2 h0d ⊢
  have HD := Lib.hid (h0d)
  clear h0d
  by_cases e : c = 0
  · subst e
    have hd : decide ((0 : Int) = 0) = true := rfl
    go_enter Try.func21, Try.ntmps21
    go_wp2_with fail
    go_region_held3 (fun w' => w'.cell? ⟨w.heap.size, 1, none⟩ = some (.int .i64 l) ∧ w'.cell? ⟨w.heap.size, 2, none⟩ = some (.int .i64 0))
      (first | exact ⟨c1, c2⟩ | exact ⟨BX1.out.cell 1, BX1.out.cell 2⟩ | exact ⟨BX2.out.cell 1, BX2.out.cell 2⟩ | exact ⟨BX3.out.cell 1, BX3.out.cell 2⟩)
      (first
        | (go_at_call 13; refine (stopped_any x st i _ HD.out hi).mono ?_; rintro e1 w1 ⟨rfl, h1, t1⟩; (try rw [HC.out]); (try rw [hd]); have H1 := Lib.hid h1; have T1 := Lib.hid (T0.out.drew.trans t1); have BX1 := Lib.hid (BX.out.drew.turn t1 HN.out); clear h1 t1)
        | (go_at_call 15; refine (cause_any x st i _ H1.out hi).mono ?_; rintro e2 w2 ⟨rfl, h2, t2⟩; rw [HC.out]; have H2 := Lib.hid h2; have T2 := Lib.hid (T1.out.trans t2); have BX2 := Lib.hid (BX1.out.turn t2 HN.out); clear h2 t2)
        | (go_at_call 12; refine (left_any x st i _ H2.out hi).mono ?_; rintro e3 w3 ⟨rfl, h3, t3⟩; rw [HL.out]; have H3 := Lib.hid h3; have T3 := Lib.hid (T2.out.trans t3); have BX3 := Lib.hid (BX2.out.turn t3 HN.out); clear h3 t3))
    go_wp2
    go_ret
    exact ⟨rfl, H3.out, T3.out⟩
  · have hne : (c != 0) = true := by simpa using e
    have hd : decide ((c : Int) = 0) = false := decide_eq_false e
    go_enter Try.func21, Try.ntmps21
    go_wp2_with fail
    go_region_held3 (fun w' => w'.cell? ⟨w.heap.size, 1, none⟩ = some (.int .i64 l) ∧ w'.cell? ⟨w.heap.size, 2, none⟩ = some (.int .i64 c))
      (first | exact ⟨c1, c2⟩ | exact ⟨BX1.out.cell 1, BX1.out.cell 2⟩ | exact ⟨BX2.out.cell 1, BX2.out.cell 2⟩ | exact ⟨BX3.out.cell 1, BX3.out.cell 2⟩)
      (first
        | (go_at_call 13; refine (stopped_any x st i _ HD.out hi).mono ?_; rintro e1 w1 ⟨rfl, h1, t1⟩; (try rw [HC.out]); (try rw [hd]); have H1 := Lib.hid h1; have T1 := Lib.hid (T0.out.drew.trans t1); have BX1 := Lib.hid (BX.out.drew.turn t1 HN.out); clear h1 t1)
        | (go_at_call 15; refine (cause_any x st i _ H1.out hi).mono ?_; rintro e2 w2 ⟨rfl, h2, t2⟩; rw [HC.out]; have H2 := Lib.hid h2; have T2 := Lib.hid (T1.out.trans t2); have BX2 := Lib.hid (BX1.out.turn t2 HN.out); clear h2 t2)
        | (go_at_call 12; refine (left_any x st i _ H2.out hi).mono ?_; rintro e3 w3 ⟨rfl, h3, t3⟩; rw [HL.out]; have H3 := Lib.hid h3; have T3 := Lib.hid (T2.out.trans t3); have BX3 := Lib.hid (BX2.out.turn t3 HN.out); clear h3 t3))
    go_wp2
    go_ret
    exact ⟨rfl, H3.out, T3.out⟩
end Go.Proofs.Ytcfdpeafnpeddaa
