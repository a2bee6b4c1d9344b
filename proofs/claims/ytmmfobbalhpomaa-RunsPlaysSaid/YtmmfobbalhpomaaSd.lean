/- sorted: the walk, and what it gives in plain terms. -/
import Derived.Test.YtmmfobbalhpomaaPo
import Derived.Test.YtmmfobbalhpomaaPu
import Derived.Laws.MakeOwn
namespace Go.Proofs.Ytmmfobbalhpomaa
set_option linter.unusedVariables false
set_option linter.unusedSimpArgs false
open Go.RowKit

/-- The rows with their numbers. -/
def nums (rows : List Row) : List Nm := rows.zipIdx.map fun p => ⟨p.1, (p.2 : Int)⟩
theorem nums_snoc (l : List Row) (x : Row) : nums (l ++ [x]) = nums l ++ [⟨x, (l.length : Int)⟩] := by
  unfold nums
  rw [List.zipIdx_append, List.map_append]
  simp
theorem nums_length (l : List Row) : (nums l).length = l.length := by simp [nums]
theorem nums_rows (l : List Row) : (nums l).map Nm.row = l := by
  unfold nums
  rw [List.map_map]
  have : (Nm.row ∘ fun p : Row × Nat => (⟨p.1, (p.2 : Int)⟩ : Nm)) = Prod.fst := by funext p; rfl
  rw [this, List.zipIdx_map_fst]
def heapOf (o : Int) (rows : List Row) : List Nm := (nums rows).foldl (fun h x => push Nm.zero (ltN o) h x) []
theorem heapOf_snoc (o : Int) (l : List Row) (x : Row) : heapOf o (l ++ [x]) = push Nm.zero (ltN o) (heapOf o l) ⟨x, (l.length : Int)⟩ := by
  unfold heapOf
  rw [nums_snoc, List.foldl_append]
  rfl
theorem fold_heap {o : Int} (ht : Tot (ltN o)) : ∀ (l h0 : List Nm), IsHeap Nm.zero (ltN o) h0 → IsHeap Nm.zero (ltN o) (l.foldl (fun h x => push Nm.zero (ltN o) h x) h0) ∧ (l.foldl (fun h x => push Nm.zero (ltN o) h x) h0).Perm (h0 ++ l) := by
  intro l
  induction l with
  | nil => intro h0 h; exact ⟨h, by rw [List.append_nil]; exact List.Perm.refl _⟩
  | cons x l ih =>
    intro h0 h
    obtain ⟨a, b⟩ := ih _ (push_heap ht h x)
    refine ⟨a, b.trans ?_⟩
    rw [show h0 ++ x :: l = (h0 ++ [x]) ++ l by simp]
    exact (push_perm h0 x).append_right l
theorem heapOf_is {o : Int} (ho : o = 1 ∨ o = 2) (l : List Row) : IsHeap Nm.zero (ltN o) (heapOf o l) ∧ (heapOf o l).Perm (nums l) :=
  fold_heap (ltN_tot ho) _ [] (fun j h0 hj => by simp at hj)
theorem heapOf_length {o : Int} (ho : o = 1 ∨ o = 2) (l : List Row) : (heapOf o l).length = l.length := by
  rw [(heapOf_is ho l).2.length_eq, nums_length]
/-- The rows of a list in order, those alike as they stood. -/
def IsSorted (o : Int) (rows : List Row) (out : List Nm) : Prop := out.Perm (nums rows) ∧ out.Pairwise fun a b => ltN o b a = false
theorem IsSorted.length {o : Int} {rows : List Row} {out : List Nm} (h : IsSorted o rows out) : out.length = rows.length := by rw [h.1.length_eq, nums_length]
/-- A list of rows that may be read. -/
def RowsAt (w : World) (A : Option Addr) (rows : List Row) : Prop :=
  ∀ i x, rows[i]? = some x → ∃ b off, A = some ⟨b, off, none⟩ ∧ b < w.heap.size ∧ ∀ j, j < 7 → w.cell? ⟨b, off + i * 7 + j, none⟩ = x.cells[j]?
theorem RowsAt.below {w w' : World} {A : Option Addr} {rows : List Row} (h : RowsAt w A rows) (hb : Below w.heap.size w w') : RowsAt w' A rows := by
  intro i x hx
  obtain ⟨b, off, e, hlt, hc⟩ := h i x hx
  exact ⟨b, off, e, Nat.lt_of_lt_of_le hlt hb.size, fun j hj => (World.cell?_of_block (w := w) (hb.block b hlt)).trans (hc j hj)⟩
theorem info30 : ∃ i, Try.prog.info? 30 = some i ∧ i.zero = some (.agg Row.zero.cells.toArray) ∧ i.size = 7 ∧ i.bytes = 64 := by
  have h : (Try.prog.info? 30).map (fun i => (i.zero, i.size, i.bytes)) = some (some (.agg Row.zero.cells.toArray), 7, 64) := by kernel_rfl
  cases hi : Try.prog.info? 30 with
  | none => rw [hi] at h; cases h
  | some i =>
    rw [hi] at h
    simp only [Option.map_some, Option.some.injEq, Prod.mk.injEq] at h
    exact ⟨i, rfl, h.1, h.2.1, h.2.2⟩
theorem own_ne {α β : Type} {w : World} {base base' : Nat} {e e' : TypeId} {s s' : Nat} {f : α → List Value} {f' : β → List Value} {v v' : Value} {xs : List α} {ys : List β} (h : Own w base e s f v xs) (h' : Own w base' e' s' f' v' ys) (ne : e ≠ e') (b : Nat) (hb : v.ownBlock = some b) : v'.ownBlock ≠ some b := by
  intro hb'
  rcases h.cases with ⟨rfl, -⟩ | ⟨g, cap, rest, rfl, -, -, -, hr⟩
  · simp [Value.ownBlock] at hb
  · rcases h'.cases with ⟨rfl, -⟩ | ⟨g', cap', rest', rfl, -, -, -, hr'⟩
    · simp [Value.ownBlock] at hb'
    · have e1 : g = b := by simpa [Value.ownBlock] using hb
      have e2 : g' = b := by simpa [Value.ownBlock] using hb'
      subst e1
      subst e2
      exact hr.ne hr' ne rfl
theorem own_row {α : Type} {w : World} {base : Nat} {e : TypeId} {s : Nat} {f : α → List Value} {v : Value} {xs : List α} (h : Own w base e s f v xs) {b : Nat} {T : TypeId} {cs : List Value} (hr : RowAt w b T cs) (ne : e ≠ T) : v.ownBlock ≠ some b := by
  intro hb
  rcases h.cases with ⟨rfl, -⟩ | ⟨g, cap, rest, rfl, -, -, -, hr'⟩
  · simp [Value.ownBlock] at hb
  · have e1 : g = b := by simpa [Value.ownBlock] using hb
    subst e1
    exact hr'.ne hr ne rfl
theorem Own.form {α : Type} {w : World} {base : Nat} {e : TypeId} {s : Nat} {f : α → List Value} {v : Value} {xs : List α} (h : Own w base e s f v xs) : ∃ A cap, v = .slice A xs.length cap := by
  rcases h.cases with ⟨rfl, rfl⟩ | ⟨g, cap, rest, rfl, -⟩
  · exact ⟨_, _, rfl⟩
  · exact ⟨_, _, rfl⟩
theorem run_store_func {P : Program} {w : World} {a : Addr} {m : Mode} (fn : Fn) (f c : Array Value) : (store a (.func fn f c) m).run P w = stored P w a (.func fn f c) m := run_store P w a _ m rfl
attribute [local go_sem] run_store_func
def sliceLen (v : Value) : Nat := match v with | .slice _ n _ => n | _ => 0
set_option maxRecDepth 100000 in
set_option maxHeartbeats 6400000 in
theorem sorted_any (o : Int) (ho : o = 1 ∨ o = 2) (A : Option Addr) (m cap : Nat) (rows : List Row) (hm : rows.length = m) (hml : m < 16777216) (w : World) (hR : RowsAt w A rows) :
    Calls Try.prog 28 #[.int .i64 o, .slice A m cap] w fun e w' => ∃ v' out, e = .returned v' ∧ IsSorted o rows out ∧ Own w' w.heap.size 30 7 Row.cells v' (out.map Nm.row) ∧ Below w.heap.size w w' := by
  have hmf : ∀ (fn : Fn) (first cap : Array Value) (w : World), (Instr.makeFunc fn first cap).run Try.prog w = .ok (.func fn first cap) w := fun _ _ _ _ => rfl
  have HR := Lib.hid hR
  have HM := Lib.hid hm
  clear hR hm
  have HP0 := Lib.hid (show HP ((w.alloc (.cells #[.int .i64 o] 3)).alloc (.cells #[.slice none 0 0, lessV w.heap.size] 78)) (w.heap.size + 1) w.heap.size w.heap.size o (.slice none 0 0) (heapOf o (rows.take 0)) from
    ⟨RowAt.new' (w.alloc (.cells [Value.int .i64 o].toArray 3)) (w.heap.size + 1) 78 [.slice none 0 0, lessV w.heap.size] (by simp), (RowAt.new w 3 [.int .i64 o]).alloc _, Own.nil _ _ _ _ _⟩)
  have B0 := Lib.hid (((Below.refl w.heap.size w).alloc (Nat.le_refl _) (.cells #[.int .i64 o] 3)).alloc (by simp) (.cells #[.slice none 0 0, lessV w.heap.size] 78))
  go_enter Try.func28, Try.ntmps28
  go_wp2
  obtain ⟨ob, hob⟩ : ∃ b, b = w.heap.size := ⟨_, rfl⟩
  rw [← hob] at HP0
  have HOB := Lib.hid hob
  have hml' : m ≤ 9223372036854775807 := by omega
  go_loopw [13] (fun s wr => ∃ (k : Nat) (v : Value), s = .int .i64 k ∧ k ≤ m ∧ Hid (HP wr (w.heap.size + 1) ob w.heap.size o v (heapOf o (rows.take k))) ∧ Hid (Below w.heap.size w wr)) (fun s _ => m - (intOf s).toNat)
  case atStart => exact ⟨0, .slice none 0 0, rfl, by omega, by rw [hob] at HP0 ⊢; exact HP0.out, B0.out⟩
  case round =>
    clear HP0 B0 hob
    obtain ⟨k, v, rfl, hk, HPw, HB⟩ := hrel
    by_cases hlt : k < m
    · obtain ⟨x, hx⟩ : ∃ x, rows[k]? = some x := ⟨_, List.getElem?_eq_getElem (by rw [HM.out]; exact hlt)⟩
      obtain ⟨b, off, rfl, hb, hc⟩ := (HR.out.below HB.out) k x hx
      have htk : rows.take (k + 1) = rows.take k ++ [x] := by rw [List.take_add_one, hx]; rfl
      have hkl : (rows.take k).length = k := by rw [List.length_take, HM.out]; omega
      have hnx := heapOf_snoc o (rows.take k) x
      rw [← htk, hkl] at hnx
      have hhl : (heapOf o (rows.take k)).length = k := by rw [heapOf_length ho, hkl]
      have HNX := Lib.hid hnx
      have HHL := Lib.hid hhl
      obtain ⟨kx, tx, sx, ix, fx, ox, bx⟩ := x
      have c0 := hc 0 (by omega)
      have c1 := hc 1 (by omega)
      have c2 := hc 2 (by omega)
      have c3 := hc 3 (by omega)
      have c4 := hc 4 (by omega)
      have c5 := hc 5 (by omega)
      have c6 := hc 6 (by omega)
      simp only [Row.cells, List.getElem?_cons_zero, List.getElem?_cons_succ, Nat.add_zero] at c0 c1 c2 c3 c4 c5 c6
      clear hc hx htk hkl hnx hhl
      go_wp2_with fail
      have b1 := HB.out.alloc HB.out.size (.cells (Row.cells ⟨kx, tx, sx, ix, fx, ox, bx⟩).toArray 30)
      refine (push_any (w.heap.size + 1) ob w.heap.size o ho v (heapOf o (rows.take k)) ⟨⟨kx, tx, sx, ix, fx, ox, bx⟩, k⟩ _ (HPw.out.below ((Below.refl _ _).alloc (Nat.le_refl _) (.cells (Row.cells ⟨kx, tx, sx, ix, fx, ox, bx⟩).toArray 30))) (by rw [HHL.out]; omega) b1.size).mono ?_
      rintro e w3 ⟨v', rfl, hp3, t3, -⟩
      rw [← HNX.out] at hp3
      have HP3 := Lib.hid hp3
      have B3 := Lib.hid (b1.trans (t3.below b1.size fun i hi hh => by
        rcases hh with rfl | hh
        · omega
        · have := (HPw.out.own.base i hh).1; omega))
      clear hp3 t3 b1 c0 c1 c2 c3 c4 c5 c6
      go_wp2
      go_roundw
      case rel => exact ⟨k + 1, v', by go_num, by omega, HP3.out, B3.out⟩
      case measure => simp [intOf]; omega
    · have e : k = m := by omega
      subst e
      have hall : rows.take k = rows := List.take_of_length_le (by rw [HM.out]; exact Nat.le_refl _)
      rw [hall] at HPw
      obtain ⟨i0, hi0, hz0, hz1, hz2⟩ := info30
      obtain ⟨wm, hrun, hownm, hgrow⟩ := run_make_own (P := Try.prog) wr w.heap.size 31 30 i0 (.agg Row.zero.cells.toArray) 7 Try.underlying31 hi0 hz0 hz1 .i64 .i64 k (by rw [hz2]; omega) (by unfold maxLen; omega) HB.out.size
      have tm : Turn (fun _ => False) wr wm := (Turn.refl _ _).grown hgrow fun k hk => by cases hk
      have HPm := Lib.hid (HPw.out.turn tm id id fun _ _ => id)
      have HBm := Lib.hid (HB.out.trans (tm.below HB.out.size fun _ _ => id))
      have HOm := Lib.hid (show Own wm w.heap.size 30 7 Row.cells (.slice (some ⟨wr.heap.size, 0, none⟩) 0 k) (([] : List Nm).map Nm.row) from hownm)
      have hps := Pops.start (d := Nm.zero) (lt := ltN o) (all := nums rows) (heapOf_is ho rows).2 (heapOf_is ho rows).1
      have HPS := Lib.hid hps
      have hxl := heapOf_length ho rows
      rw [HM.out] at hxl
      have HXL := Lib.hid (show ([] : List Nm).length + (heapOf o rows).length = k by rw [hxl]; simp)
      clear hownm hgrow tm hps hxl hall
      go_wp2
      clear hrun
      go_loopw [8] (fun s wx => ∃ (vh : Value) (xs out : List Nm), Hid (HP wx (w.heap.size + 1) ob w.heap.size o vh xs) ∧ Hid (Own wx w.heap.size 30 7 Row.cells s (out.map Nm.row)) ∧ Hid (Pops Nm.zero (ltN o) (nums rows) out xs) ∧ Hid (out.length + xs.length = k) ∧ Hid (Below w.heap.size w wx)) (fun s _ => k - sliceLen s)
      case atStart => exact ⟨v, heapOf o rows, [], HPm.out, HOm.out, HPS.out, HXL.out, HBm.out⟩
      case round =>
        clear HPw HB HPm HOm HPS HXL HBm
        obtain ⟨vh, xs, out, HPx, HO, HS, HL, HB⟩ := hrel
        obtain ⟨Ao, co, hvo⟩ := HO.out.form
        rw [List.length_map] at hvo
        rw [hvo] at HO ⊢
        clear hvo
        have hh0 := HPx.out.head.cell 0
        simp only [List.getElem?_cons_zero] at hh0
        by_cases hx0 : xs = []
        · subst hx0
          obtain ⟨Ah, ch, hvh⟩ := HPx.out.own.form
          subst hvh
          go_wp2
          go_ret
          have hs := HS.out.perm
          rw [List.append_nil] at hs
          exact ⟨_, out, rfl, ⟨hs, HS.out.sorted⟩, HO.out, HB.out⟩
        · obtain ⟨N, hN⟩ : ∃ N, xs.length = N + 1 := ⟨xs.length - 1, by have := List.length_pos_iff.2 hx0; omega⟩
          obtain ⟨g, ch, rest, hvh, hbg, -, -, -⟩ := HPx.out.view (by omega)
          rw [hN] at hvh
          subst hvh
          have HN := Lib.hid hN
          have hl := HL.out
          rw [hN] at hl
          have hNb : N < 16777216 := by omega
          have hz : (0 : Int) < (N : Int) + 1 := by omega
          have hnx := HS.out.next (ltN_tot ho) (by omega)
          have HNX := Lib.hid hnx
          have hpl := popped_length (d := Nm.zero) (lt := ltN o) (xs := xs) (by omega)
          have HPL := Lib.hid hpl
          have HLL := Lib.hid hl
          obtain ⟨tp, htp⟩ : ∃ y, y = gt Nm.zero xs 0 := ⟨_, rfl⟩
          have HTP := Lib.hid htp
          clear hx0 hN hnx hpl hl HL htp
          go_wp2_with fail
          refine (pop_any (w.heap.size + 1) ob w.heap.size g N ch o ho xs _ HPx.out hNb HN.out).mono ?_
          rintro e w4 ⟨rfl, hp4, t4⟩
          rw [← HTP.out]
          rw [← HTP.out] at HNX
          have HP4 := Lib.hid hp4
          have ho4 : Own w4 w.heap.size 30 7 Row.cells (.slice Ao out.length co) (out.map Nm.row) := HO.out.turn t4 fun b hb hh => by
            rcases hh with rfl | rfl
            · exact own_row HO.out HPx.out.head (by decide) hb
            · exact own_ne HO.out HPx.out.own (by decide) b hb rfl
          have HO4 := Lib.hid ho4
          have HB4 := Lib.hid (HB.out.trans (t4.below HB.out.size fun i hi hh => by
            rcases hh with rfl | rfl
            · omega
            · omega))
          have hs4 := HB4.out.size
          obtain ⟨⟨kx, tx, sx, ix, fx, ox, bx⟩, ax⟩ := tp
          clear hp4 t4 ho4 hh0
          have o4 := HO4.out
          unfold Own at o4
          rw [List.length_map] at o4
          have HO5 := Lib.hid o4
          clear o4
          simp only [Nm.cells]
          have hfd : ∀ w : World, (Instr.field 74 (.agg #[.int .i64 kx, .int .i64 tx, .int .i64 sx, .int .i64 ix, .int .i64 fx, .int .i64 ox, .string bx, .int .i64 ax]) 0).run Try.prog w = .ok (.agg #[.int .i64 kx, .int .i64 tx, .int .i64 sx, .int .i64 ix, .int .i64 fx, .int .i64 ox, .string bx]) w := fun _ => by kernel_rfl
          go_wp2_with (at_builtin; refine wpList_append_own_at _ rfl _ _ 31 rfl w.heap.size 30 i0 (.agg Row.zero.cells.toArray) 7 64 Try.underlying31 hi0 hz0 hz1 hz2 rfl (by decide) _ _ _ rfl (World.ownsRow.alloc HO5.out _) ⟨w4.heap.size, 0, none⟩ 1 1 (Row.cells ⟨kx, tx, sx, ix, fx, ox, bx⟩) rfl rfl ?c1 ?c2 ?c3 ?c4 ?c5 ?_)

          case c1 => exact World.news_of_block (B := w4.heap.size) (RowAt.new w4 30 (Row.cells ⟨kx, tx, sx, ix, fx, ox, bx⟩))
          case c2 => intro u hu; simp [Row.cells] at hu; rcases hu with rfl | rfl | rfl | rfl | rfl | rfl | rfl <;> rfl
          case c3 => have := HLL.out; unfold maxLen; omega
          case c4 => have := HLL.out; omega
          case c5 => simp; omega
          intro v' w5 hown' hgrow _ hob'
          have t5 : Turn (fun b => (Value.slice Ao out.length co).ownBlock = some b) w4 w5 := (Turn.of_below ((Below.refl w4.heap.size w4).alloc (Nat.le_refl _) (.cells (Row.cells ⟨kx, tx, sx, ix, fx, ox, bx⟩).toArray 30)) _).grown hgrow fun k hk => .inl hk
          have ho5 : Own w5 w.heap.size 30 7 Row.cells v' ((out ++ [(⟨⟨kx, tx, sx, ix, fx, ox, bx⟩, ax⟩ : Nm)]).map Nm.row) := by
            rw [List.map_append]
            exact Own.snoc (by rw [List.length_map]; exact hown')
          have hp5 := HP4.out.turn t5 (own_row HO4.out HP4.out.head (by decide)) (own_row HO4.out HP4.out.ord (by decide)) (fun b hb hh => own_ne HO4.out HP4.out.own (by decide) b hh hb)
          have hb5 := HB4.out.trans (t5.below hs4 fun i hi hh => by have := (HO4.out.base i hh).1; omega)
          obtain ⟨A5, c5, hv5⟩ := ho5.form
          rw [List.length_map, List.length_append, List.length_singleton] at hv5
          subst hv5
          have HO6 := Lib.hid ho5
          have HP6 := Lib.hid hp5
          have HB6 := Lib.hid hb5
          have HL6 := Lib.hid (show (out ++ [(⟨⟨kx, tx, sx, ix, fx, ox, bx⟩, ax⟩ : Nm)]).length + (popped Nm.zero (ltN o) xs).length = k by rw [HPL.out, HN.out, List.length_append, List.length_singleton]; have := HLL.out; omega)
          clear t5 ho5 hp5 hb5 hown' hgrow hob'
          go_wp2
          go_roundw
          case rel => exact ⟨_, _, _, HP6.out, HO6.out, HNX.out, HL6.out, HB6.out⟩
          case measure => have := HLL.out; simp [sliceLen]; omega
end Go.Proofs.Ytmmfobbalhpomaa
