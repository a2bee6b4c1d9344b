/- The anchor: two rows are taken sorted. -/
import Derived.Test.YtmmfobbalhpomaaTk
namespace Go.Proofs.Ytmmfobbalhpomaa
set_option linter.unusedVariables false
set_option linter.unusedSimpArgs false
open Go.RowKit

def rx : Row := ⟨1, 9, 0, 0, 0, 0, ByteArray.empty⟩
def ry : Row := ⟨1, 4, 0, 0, 0, 0, ByteArray.empty⟩
theorem rx_size : rx.ok = true ∧ sizeF rx = 7 := by
  have h : rx.ok = true := by
    rw [Row.ok_iff]
    unfold Row.Right rx
    simp
  refine ⟨h, ?_⟩
  rw [sizeF, if_pos h]
  rfl
theorem ry_size : ry.ok = true ∧ sizeF ry = 7 := by
  have h : ry.ok = true := by
    rw [Row.ok_iff]
    unfold Row.Right ry
    simp
  refine ⟨h, ?_⟩
  rw [sizeF, if_pos h]
  rfl
theorem anchor_sorted {out : List Nm} (h : IsSorted 1 [rx, ry] out) : out.map Nm.row = [ry, rx] := by
  have h2 : IsSorted 1 [rx, ry] [⟨ry, 1⟩, ⟨rx, 0⟩] := by
    refine ⟨?_, ?_⟩
    · show List.Perm ([⟨ry, 1⟩, ⟨rx, 0⟩] : List Nm) [⟨rx, 0⟩, ⟨ry, 1⟩]
      exact List.Perm.swap _ _ _
    · rw [List.pairwise_cons]
      refine ⟨fun a ha => ?_, List.pairwise_singleton _ _⟩
      rw [List.mem_singleton] at ha
      subst ha
      rfl
  rw [h.unique (.inl rfl) h2]
  rfl
def Row.eqb (a b : Row) : Bool := a.kind == b.kind && (a.time == b.time && (a.seq == b.seq && (a.index == b.index && (a.frm == b.frm && (a.to == b.to && (a.body.toList == b.body.toList))))))
theorem Row.eqb_iff (a b : Row) : a.eqb b = true ↔ a = b := by
  obtain ⟨a0, a1, a2, a3, a4, a5, a6⟩ := a
  obtain ⟨b0, b1, b2, b3, b4, b5, b6⟩ := b
  unfold Row.eqb
  simp only [Bool.and_eq_true, beq_iff_eq, Row.mk.injEq]
  constructor
  · rintro ⟨h0, h1, h2, h3, h4, h5, h6⟩
    exact ⟨h0, h1, h2, h3, h4, h5, bytes_eq h6⟩
  · rintro ⟨h0, h1, h2, h3, h4, h5, h6⟩
    exact ⟨h0, h1, h2, h3, h4, h5, by rw [h6]⟩
theorem Row.eqb_self (a : Row) : a.eqb a = true := (Row.eqb_iff a a).2 rfl
theorem eqA30 (d : Nat) (w : World) (x0 y0 : Int) (x1 y1 : Int) (x2 y2 : Int) (x3 y3 : Int) (x4 y4 : Int) (x5 y5 : Int) (x6 y6 : ByteArray) :
    (Op.equalIn (d + 2) 30 (.agg #[.int .i64 x0, .int .i64 x1, .int .i64 x2, .int .i64 x3, .int .i64 x4, .int .i64 x5, .string x6]) (.agg #[.int .i64 y0, .int .i64 y1, .int .i64 y2, .int .i64 y3, .int .i64 y4, .int .i64 y5, .string y6])).run Try.prog w = .ok (Row.eqb ⟨x0, x1, x2, x3, x4, x5, x6⟩ ⟨y0, y1, y2, y3, y4, y5, y6⟩) w := by
  refine eqStruct_of Try.underlying30 (by kernel_rfl) ?_
  refine eqField_cons (by rfl) (by go_simp; rfl) (by go_simp; rfl) (by go_simp) ?_
  refine eqField_cons (by rfl) (by go_simp; rfl) (by go_simp; rfl) (by go_simp) ?_
  refine eqField_cons (by rfl) (by go_simp; rfl) (by go_simp; rfl) (by go_simp) ?_
  refine eqField_cons (by rfl) (by go_simp; rfl) (by go_simp; rfl) (by go_simp) ?_
  refine eqField_cons (by rfl) (by go_simp; rfl) (by go_simp; rfl) (by go_simp) ?_
  refine eqField_cons (by rfl) (by go_simp; rfl) (by go_simp; rfl) (by go_simp) ?_
  exact eqField_last (by rfl) (by go_simp; rfl) (by go_simp; rfl) (by go_simp)
theorem belowN {B : Nat} {w wr : World} (h : Below B w wr) (n : Nat) : Below B w (wr.drewN n) := ⟨h.os, h.tape, h.output, h.size, h.block⟩
theorem add_ok (b base : Nat) (o bud y pk : Int) (v : Value) (rows : List Row) (r : Row) (w : World) (H : BP w b base o bud y pk v rows) (hbw : base ≤ w.heap.size) (hok : r.ok = true) (h1 : sizeF r ≤ bud) (h2 : y + sizeF r ≤ bud) :
    Calls Try.prog 10 #[.pointer (some ⟨b, 0, none⟩), .agg r.cells.toArray] w fun e w' => ∃ v' pk', e = .returned (.int .i64 0) ∧ BP w' b base o bud (y + sizeF r) pk' v' (rows ++ [r]) ∧ (∀ k, v'.ownBlock = some k → v.ownBlock = some k ∨ w.heap.size ≤ k) ∧ Turn (fun k => k = b ∨ v.ownBlock = some k) w w' := by
  refine (add_any b base o bud y pk v rows r w H hbw).mono ?_
  have e : addC bud y r = 0 := by rw [addC, if_pos hok, if_neg (by omega), if_neg (by omega)]
  unfold AddPost
  rw [e]
  rintro e w' ⟨rfl, h, t⟩
  rw [if_pos rfl] at h
  obtain ⟨v', pk', h, hf, -⟩ := h
  exact ⟨v', pk', rfl, h, hf, t⟩
attribute [local go_sem high] eqA30
set_option maxRecDepth 100000 in
set_option maxHeartbeats 3200000 in
theorem anchor_any (w : World) : Calls Try.prog 8 #[] w fun e w' => e = .returned (.bool true) ∧ Below w.heap.size w w' := by
  have hnot : ∀ (x : Bool) (w : World), (Op.unary .not (.bool x)).run Try.prog w = .ok (.bool (!x)) w := fun _ _ => rfl
  go_enter Try.func8, Try.ntmps8
  go_wp2_with fail
  refine (new_any 1 100 (.inl rfl) (by decide) (by decide) w).mono ?_
  rintro e w1 ⟨rfl, h1, b1⟩
  have H1 := Lib.hid h1
  have B1 := Lib.hid b1
  have hs1 := b1.size
  clear h1 b1
  go_wp2_with fail
  have X0 := Lib.hid ((RowAt.new w1 30 rx.cells).alloc (.cells ry.cells.toArray 30))
  have Y0 := Lib.hid (RowAt.new' (w1.alloc (.cells rx.cells.toArray 30)) (w1.heap.size + 1) 30 ry.cells (by simp))
  have bb := ((Below.refl w1.heap.size w1).alloc (Nat.le_refl _) (.cells rx.cells.toArray 30)).alloc (by simp) (.cells ry.cells.toArray 30)
  have H2 := Lib.hid (H1.out.below bb)
  have B2 := Lib.hid (B1.out.trans (bb.mono hs1))
  have hs2 := bb.size
  clear bb
  have hW : (w1.alloc (.cells #[.int .i64 1, .int .i64 9, .int .i64 0, .int .i64 0, .int .i64 0, .int .i64 0, .string ⟨#[]⟩] 30)).alloc (.cells #[.int .i64 1, .int .i64 4, .int .i64 0, .int .i64 0, .int .i64 0, .int .i64 0, .string ⟨#[]⟩] 30) = (w1.alloc (.cells rx.cells.toArray 30)).alloc (.cells ry.cells.toArray 30) := rfl
  rw [hW]
  clear hW
  generalize (w1.alloc (.cells rx.cells.toArray 30)).alloc (.cells ry.cells.toArray 30) = w2 at X0 Y0 H2 B2 hs2 ⊢
  have hx1 : w.heap.size < w1.heap.size := H1.out.head.lt
  refine (add_ok w.heap.size w.heap.size 1 100 0 0 (.slice none 0 0) [] rx w2 H2.out (by omega) rx_size.1 (by rw [rx_size.2]; decide) (by rw [rx_size.2]; decide)).mono ?_
  rintro e w3 ⟨v3, pk3, rfl, h3, f3, t3⟩
  rw [rx_size.2] at h3
  have hn3 : ∀ k, w1.heap.size ≤ k → ¬ (k = w.heap.size ∨ (Value.slice none 0 0).ownBlock = some k) := fun k hk e => by
    rcases e with e | e
    · omega
    · simp [Value.ownBlock] at e
  have X3 := Lib.hid (X0.out.turn t3 (hn3 _ (Nat.le_refl _)))
  have Y3 := Lib.hid (Y0.out.turn t3 (hn3 _ (by omega)))
  have H3 := Lib.hid h3
  have F3 := Lib.hid f3
  have B3 := Lib.hid (B2.out.trans (t3.below B2.out.size fun i hi e => by
    rcases e with e | e
    · omega
    · simp [Value.ownBlock] at e))
  have hs3 := t3.size
  have y3 := Y3.out.cell
  simp only [ry, Row.cells] at y3
  clear h3 t3 hn3 f3
  go_wp2_with fail
  refine (add_ok w.heap.size w.heap.size 1 100 (0 + 7) pk3 v3 ([] ++ [rx]) ry w3 H3.out (by omega) ry_size.1 (by rw [ry_size.2]; decide) (by rw [ry_size.2]; decide)).mono ?_
  rintro e w4 ⟨v4, pk4, rfl, h4, -, t4⟩
  rw [ry_size.2] at h4
  have hn4 : ∀ k, w1.heap.size ≤ k → k < w2.heap.size → ¬ (k = w.heap.size ∨ v3.ownBlock = some k) := fun k hk hk2 e => by
    rcases e with e | e
    · omega
    · rcases F3.out k e with e | e
      · simp [Value.ownBlock] at e
      · omega
  have X4 := Lib.hid (X3.out.turn t4 (hn4 _ (Nat.le_refl _) X0.out.lt))
  have Y4 := Lib.hid (Y3.out.turn t4 (hn4 _ (by omega) Y0.out.lt))
  have H4 := Lib.hid h4
  have B4 := Lib.hid (B3.out.trans (t4.below B3.out.size fun i hi e => by
    rcases e with e | e
    · omega
    · rcases F3.out i e with e | e
      · simp [Value.ownBlock] at e
      · omega))
  have hs4 := t4.size
  clear h4 t4 hn4 y3
  go_wp2_with fail
  refine (bytes_any _ _ _ _ _ _ _ _ _ H4.out).mono ?_
  rintro e w5 ⟨rfl, rfl⟩
  go_wp2_with fail
  refine (take_any _ _ _ _ _ _ _ _ _ H4.out).mono ?_
  rintro e w6 ⟨v6, out, rfl, hs6, ho6, -, t6⟩
  rw [anchor_sorted hs6] at ho6
  have B6 := Lib.hid (B4.out.trans (t6.below B4.out.size fun i hi e => by have e' : i = w.heap.size := e; omega))
  have X6 := Lib.hid (X4.out.turn t6 (fun e => by have e' : w1.heap.size = w.heap.size := e; omega))
  have Y6 := Lib.hid (Y4.out.turn t6 (fun e => by have e' : w1.heap.size + 1 = w.heap.size := e; omega))
  rcases ho6.cases with ⟨-, e⟩ | ⟨g6, cap6, rest6, hv6, -, -, -, hr6⟩
  · cases e
  have x6 := X6.out.cell
  have y6 := Y6.out.cell
  have l0 : ∀ j, j < 7 → w6.cell? ⟨g6, j, none⟩ = ry.cells[j]? := fun j hj => by rw [hr6.cell, List.getElem?_append_left (by show j < 14; omega)]; exact List.getElem?_append_left (by exact hj)
  have l1 : ∀ j, j < 7 → w6.cell? ⟨g6, 7 + j, none⟩ = rx.cells[j]? := fun j hj => by
    rw [hr6.cell, List.getElem?_append_left (by show 7 + j < 14; omega)]
    show (ry.cells ++ (rx.cells ++ []))[7 + j]? = _
    rw [List.append_nil, List.getElem?_append_right (by show 7 ≤ 7 + j; omega)]
    show rx.cells[7 + j - 7]? = _
    rw [show 7 + j - 7 = j by omega]
  have a0 := l0 0 (by omega)
  have a1 := l0 1 (by omega)
  have a2 := l0 2 (by omega)
  have a3 := l0 3 (by omega)
  have a4 := l0 4 (by omega)
  have a5 := l0 5 (by omega)
  have a6 := l0 6 (by omega)
  have b0 := l1 0 (by omega)
  have b1 := l1 1 (by omega)
  have b2 := l1 2 (by omega)
  have b3 := l1 3 (by omega)
  have b4 := l1 4 (by omega)
  have b5 := l1 5 (by omega)
  have b6 := l1 6 (by omega)
  simp only [rx, ry, Row.cells, List.getElem?_cons_succ, List.getElem?_cons_zero] at x6 y6 a0 a1 a2 a3 a4 a5 a6 b0 b1 b2 b3 b4 b5 b6
  simp only [List.length_cons, List.length_nil] at hv6
  subst hv6
  clear l0 l1 hr6 ho6 hs6 t6
  have ey : Row.eqb ⟨1, 4, 0, 0, 0, 0, ByteArray.empty⟩ ⟨1, 4, 0, 0, 0, 0, ByteArray.empty⟩ = true := Row.eqb_self _
  have ex : Row.eqb ⟨1, 9, 0, 0, 0, 0, ByteArray.empty⟩ ⟨1, 9, 0, 0, 0, 0, ByteArray.empty⟩ = true := Row.eqb_self _
  go_wp2_with fail
  go_quiet (fail)
  go_wp2
  go_ret
  exact ⟨by first | rfl | simp [Row.eqb] | decide, belowN B6.out _⟩
end Go.Proofs.Ytmmfobbalhpomaa
