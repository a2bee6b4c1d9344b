/- The contracts of New and Waiting. -/
import Derived.Test.YtgcfpepaapdjoaaU
namespace Go.Proofs.Ytgcfpepaapdjoaa
set_option linter.unusedVariables false
set_option linter.unusedSimpArgs false
open Go.RowKit

def natCell (n : Nat) : List Value := [.int .i64 (n : Int)]
def waitsTo (xs : List Src) (k : Nat) : List Nat := (List.range k).filter fun i => (at' xs i).st == 0
theorem waitsTo_succ (xs : List Src) (k : Nat) : waitsTo xs (k + 1) = if (at' xs k).st = 0 then waitsTo xs k ++ [k] else waitsTo xs k := by
  unfold waitsTo
  rw [List.range_succ, List.filter_append]
  by_cases h : (at' xs k).st = 0
  · rw [if_pos h]; simp [h]
  · rw [if_neg h]; simp [h]
theorem waitsTo_length (xs : List Src) (k : Nat) : (waitsTo xs k).length ≤ k := by
  unfold waitsTo
  have := List.length_filter_le (fun i => (at' xs i).st == 0) (List.range k)
  simpa using this
theorem info3 : (Try.prog.info? 3).map (fun i => (i.zero, i.size, i.bytes)) = some (some (.int .i64 0), 1, 8) := by kernel_rfl
set_option maxRecDepth 100000 in
set_option maxHeartbeats 1600000 in
theorem waitingAll_any (g bs bl : Nat) (t : LT) (w : World) (h : IsLT w g bs bl t) :
    Calls Try.prog 13 #[.pointer (some ⟨g, 0, none⟩)] w fun e w' => ∃ v, e = .returned v ∧ Own w' w.heap.size 3 1 natCell v (waitsTo t.src t.src.length) ∧ Below w.heap.size w w' := by
  have le := h.le
  have hc := h.cells
  have h0 := Lib.hid h
  have lbs := h.src.lt
  have lg := h.main.lt
  have hu66 := Try.underlying66
  clear h
  obtain ⟨i0, hi, hz0, hz1, hz2⟩ := info_parts info3
  go_enter Try.func13, Try.ntmps13
  go_wp2
  go_loopw [11, 3] (fun i v wr => ∃ k : Nat, i = .int .i64 k ∧ k ≤ t.src.length ∧ Hid (Own wr w.heap.size 3 1 natCell v (waitsTo t.src k)) ∧ Hid (Below w.heap.size w wr)) (fun i _ _ => t.src.length - (intOf i).toNat)
  case atStart => exact ⟨0, rfl, by omega, Own.nil _ _ _ _ _, Below.refl _ _⟩
  case round =>
    obtain ⟨k, rfl, hk, HO, HB⟩ := hrel
    have hcr := (h0.out.below HB.out).cells
    have hsz := HB.out.size
    clear hc
    by_cases hlt : k < t.src.length
    · obtain ⟨x0, x1, x2, x3, x4, x5, x6, x7⟩ := Src.at (h0.out.below HB.out).src (at'_some hlt)
      obtain ⟨s, hs⟩ : ∃ s, s = (at' t.src k).st := ⟨_, rfl⟩
      rw [← hs] at x0
      have HSt := Lib.hid hs
      clear hs
      by_cases e0 : s = 0
      · subst e0
        have hown := HO.out
        have hlen := waitsTo_length t.src k
        go_wp2_with (at_builtin; refine wpList_append_own _ rfl _ _ 32 rfl w.heap.size 3 i0 (.int .i64 0) 1 8 Try.underlying32 hi hz0 hz1 hz2 rfl (by decide) _ _ _ rfl ((hown.alloc _).alloc _) ⟨wr.heap.size + 1, 0, none⟩ 1 1 [.int .i64 (k : Int)] rfl rfl ?c1 ?c2 ?c3 ?c4 ?c5 ?_)
        case c1 =>
          intro j u hj
          match j, hj with
          | 0, hj => simp at hj; subst hj; simp [Addr.add]
        case c2 => intro u hu; simp at hu; subst hu; rfl
        case c3 => unfold maxLen; omega
        case c4 => omega
        case c5 => simp; omega
        · intro v' w1 hown' hgrow _
          have o1 : Own w1 w.heap.size 3 1 natCell v' (waitsTo t.src (k + 1)) := by
            rw [waitsTo_succ, if_pos (by rw [← HSt.out])]
            exact Own.snoc hown'
          have b1 : Below w.heap.size w w1 := ((HB.out.alloc hsz _).alloc (by simp; omega) _).grown hgrow (by simp; omega) (fun k hk => (Own.base hown k hk).1)
          have O1 := Lib.hid o1
          have B1 := Lib.hid b1
          clear hown' hgrow o1 b1 hown x0 x1 x2 x3 x4 x5 x6 x7 hcr
          go_wp2
          go_roundw
          case rel => exact ⟨k + 1, by go_num, by omega, O1.out, B1.out⟩
          case measure => simp [intOf]; omega
      · go_wp2
        go_roundw
        case rel => exact ⟨k + 1, by go_num, by omega, by rw [waitsTo_succ, if_neg (by rw [← HSt.out]; exact e0)]; exact HO.out.alloc _, HB.out.alloc hsz _⟩
        case measure => simp [intOf]; omega
    · go_wp2
      go_ret
      exact ⟨_, rfl, by rw [show t.src.length = k by omega]; exact HO.out, HB.out⟩

/-! ### New -/
theorem known_any (o : Int) (w : World) : Calls Try.prog 23 #[.int .i64 o] w fun e w' => e = .returned (.bool (o == 1 || o == 2)) ∧ w = w' := by
  by_cases h : o = 1
  · subst h
    go_enter Try.func23, Try.ntmps23
    go_wp2
    go_ret
    exact ⟨rfl, rfl⟩
  · by_cases h2 : o = 2
    · subst h2
      go_enter Try.func23, Try.ntmps23
      go_wp2
      go_ret
      exact ⟨rfl, rfl⟩
    · go_enter Try.func23, Try.ntmps23
      go_wp2
      go_ret
      exact ⟨ret_bool (by simp [h, h2]), rfl⟩
def newErr (o k : Int) : Int := if o = 1 ∨ o = 2 then if 1 ≤ k ∧ k ≤ 64 then 0 else 110 else 91
theorem new_no (o k : Int) (w : World) (h : newErr o k ≠ 0) : Calls Try.prog 10 #[.int .i64 o, .int .i64 k] w fun e w' => e = .returned (.tuple #[.pointer none, .int .i64 (newErr o k)]) ∧ w = w' := by
  by_cases ho : o = 1 ∨ o = 2
  · have hk : k < 1 ∨ 64 < k := by
      unfold newErr at h
      rw [if_pos ho] at h
      by_cases hk : 1 ≤ k ∧ k ≤ 64
      · rw [if_pos hk] at h; omega
      · omega
    have e : newErr o k = 110 := by unfold newErr; rw [if_pos ho, if_neg (by omega)]
    rw [e]
    have hb : (o == 1 || o == 2) = true := by rcases ho with rfl | rfl <;> rfl
    clear e h ho
    by_cases h1 : k < 1
    all_goals
      go_enter Try.func10, Try.ntmps10
      go_wp2_with (go_at_call 23; refine (known_any o _).mono ?_; rw [hb]; rintro e w' ⟨rfl, rfl⟩)
      go_ret2
      exact ⟨rfl, rfl⟩
  · have e : newErr o k = 91 := by unfold newErr; rw [if_neg ho]
    rw [e]
    have hb : (o == 1 || o == 2) = false := by simp; omega
    clear e h ho
    go_enter Try.func10, Try.ntmps10
    go_wp2_with (go_at_call 23; refine (known_any o _).mono ?_; rw [hb]; rintro e w' ⟨rfl, rfl⟩)
    go_ret2
    exact ⟨rfl, rfl⟩
theorem info66 : (Try.prog.info? 66).map (fun i => (i.zero, i.size, i.bytes)) = some (some (.agg Src.zero.cells.toArray), 8, 72) := by kernel_rfl
theorem natCells (xs : List Nat) : xs.flatMap natCell = xs.map fun n => Value.int .i64 (n : Nat) := by
  induction xs with
  | nil => rfl
  | cons x xs ih => rw [List.flatMap_cons, ih]; rfl
def LT.new (o : Int) (k : Nat) : LT := ⟨o, List.replicate k Src.zero, List.replicate k 0, 0, false, -1⟩
set_option maxHeartbeats 800000 in
theorem new_yes (o : Int) (k : Nat) (w : World) (ho : o = 1 ∨ o = 2) (h1 : 1 ≤ k) (h2 : k ≤ 64) : Calls Try.prog 10 #[.int .i64 o, .int .i64 k] w fun e w' =>
    ∃ g bs bl, e = .returned (.tuple #[.pointer (some ⟨g, 0, none⟩), .int .i64 0]) ∧ IsLT w' g bs bl (LT.new o k) ∧ Below w.heap.size w w' ∧ w.heap.size ≤ g ∧ w.heap.size ≤ bs ∧ w.heap.size ≤ bl := by
  have hb : (o == 1 || o == 2) = true := by rcases ho with rfl | rfl <;> rfl
  have m1 := run_make_flat (P := Try.prog) Src.cells Src.zero 61 66 _ 72 Try.underlying61 info66 rfl .i64 .i64 k (by omega) (by omega)
  have m2 := run_make_flat (P := Try.prog) natCell 0 32 3 _ 8 Try.underlying32 info3 rfl .i64 .i64 k (by omega) (by omega)
  generalize hX : ((List.replicate k Src.zero).flatMap Src.cells).toArray = X at m1
  generalize hY : ((List.replicate k 0).flatMap natCell).toArray = Y at m2
  have HX := Lib.hid hX
  have HY := Lib.hid hY
  have HO := Lib.hid ho
  clear ho hX hY
  go_enter Try.func10, Try.ntmps10
  go_wp2_with (go_at_call 23; refine (known_any o _).mono ?_; rw [hb]; rintro e w' ⟨rfl, rfl⟩)
  go_region
  all_goals go_wp2
  all_goals go_ret2
  all_goals rw [← HX.out, ← HY.out]
  · have r1 : RowAt _ w.heap.size 66 ((List.replicate k Src.zero).flatMap Src.cells) := RowAt.new' w w.heap.size 66 _ rfl
    have r2 := RowAt.new' (w.alloc (.cells ((List.replicate k Src.zero).flatMap Src.cells).toArray 66)) (w.heap.size + 1) 3 ((List.replicate k 0).flatMap natCell) (by simp)
    have r3 := RowAt.new' ((w.alloc (.cells ((List.replicate k Src.zero).flatMap Src.cells).toArray 66)).alloc (.cells ((List.replicate k 0).flatMap natCell).toArray 3)) (w.heap.size + 1 + 1) 63 ((LT.new o k).head w.heap.size (w.heap.size + 1)) (by simp)
    refine ⟨w.heap.size + 1 + 1, w.heap.size, w.heap.size + 1, rfl, ⟨?_, (r1.alloc _).alloc _, ?_, by simp [LT.new], HO.out, by simpa [LT.new] using h1, by simpa [LT.new] using h2⟩, ?_, by omega, by omega, by omega⟩
    · simpa [LT.head, LT.new] using r3.drew
    · exact (r2.alloc _).congr (by rw [natCells]; rfl)
    · exact ((((Below.refl _ _).alloc (Nat.le_refl _) _).alloc (by simp) _).alloc (by simp; omega) _).drew
  · have r1 : RowAt _ w.heap.size 3 ((List.replicate k 0).flatMap natCell) := RowAt.new' w w.heap.size 3 _ rfl
    have r2 := RowAt.new' (w.alloc (.cells ((List.replicate k 0).flatMap natCell).toArray 3)) (w.heap.size + 1) 66 ((List.replicate k Src.zero).flatMap Src.cells) (by simp)
    have r3 := RowAt.new' ((w.alloc (.cells ((List.replicate k 0).flatMap natCell).toArray 3)).alloc (.cells ((List.replicate k Src.zero).flatMap Src.cells).toArray 66)) (w.heap.size + 1 + 1) 63 ((LT.new o k).head (w.heap.size + 1) w.heap.size) (by simp)
    refine ⟨w.heap.size + 1 + 1, w.heap.size + 1, w.heap.size, rfl, ⟨?_, r2.alloc _, ?_, by simp [LT.new], HO.out, by simpa [LT.new] using h1, by simpa [LT.new] using h2⟩, ?_, by omega, by omega, by omega⟩
    · simpa [LT.head, LT.new] using r3.drew
    · exact ((r1.alloc _).alloc _).congr (by rw [natCells]; rfl)
    · exact ((((Below.refl _ _).alloc (Nat.le_refl _) _).alloc (by simp) _).alloc (by simp; omega) _).drew
end Go.Proofs.Ytgcfpepaapdjoaa
