/- New stops: contracts. -/
import Derived.Test.YtcfdpeafnpeddaaBe
import Derived.Maps.AppendAt
import Derived.Conc.SmallLaws
import Derived.Deep.RegionHeld3
namespace Go.Proofs.Ytcfdpeafnpeddaa
set_option linter.unusedVariables false
set_option linter.unusedSimpArgs false
open Go.Conc Go.RowKit Go.MuLone

theorem right_any (n : Int) (w : World) : Calls Try.prog 22 #[.int .i64 n] w fun e w' => e = .returned (.bool (decide (0 ≤ n) && decide (n ≤ 1099511627776))) ∧ w' = w := by
  by_cases h0 : 0 ≤ n
  · by_cases h1 : n ≤ 1099511627776
    · rw [decide_eq_true h0, decide_eq_true h1]
      have d0 : decide (0 ≤ n) = true := decide_eq_true h0
      have d1 : decide (n ≤ 1099511627776) = true := decide_eq_true h1
      go_enter Try.func22, Try.ntmps22
      go_wp2
      go_ret
      exact ⟨rfl, rfl⟩
    · rw [decide_eq_true h0, decide_eq_false h1]
      have d0 : decide (0 ≤ n) = true := decide_eq_true h0
      have d1 : decide (n ≤ 1099511627776) = false := decide_eq_false h1
      go_enter Try.func22, Try.ntmps22
      go_wp2
      go_ret
      exact ⟨rfl, rfl⟩
  · rw [decide_eq_false h0]
    have d0 : decide (0 ≤ n) = false := decide_eq_false h0
    go_enter Try.func22, Try.ntmps22
    go_wp2
    go_ret
    exact ⟨by simp, rfl⟩
theorem info51 : ∃ i, Try.prog.info? 51 = some i ∧ i.bytes = 0 := by
  have h : (Try.prog.info? 51).map (·.bytes) = some 0 := by kernel_rfl
  obtain ⟨i, hi, hb⟩ := Option.map_eq_some_iff.1 h
  exact ⟨i, hi, hb⟩
theorem mkc (w : World) : (Instr.makeChan 60 (.int .i64 0)).run Try.prog w = .ok (.chan (some w.heap.size)) (w.alloc (.chan 0 #[] false 0 0 false)) := by
  obtain ⟨i, hi, hb⟩ := info51
  simpa using run_makeChan (P := Try.prog) (w := w) Try.underlying60 hi .i64 0 (by omega) (by rw [hb]; omega)
theorem new_no (n : Int) (w : World) (h : ¬ (0 ≤ n ∧ n ≤ 1099511627776)) : Calls Try.prog 11 #[.int .i64 n] w fun e w' => e = .returned (.tuple #[.pointer none, .int .i64 10]) ∧ w' = w := by
  have hb : (decide (0 ≤ n) && decide (n ≤ 1099511627776)) = false := by
    rw [← Bool.not_eq_true, Bool.and_eq_true, decide_eq_true_iff, decide_eq_true_iff]
    exact h
  have hr := right_any n
  rw [hb] at hr
  have HR := Lib.hid hr
  clear hr hb h
  go_enter Try.func11, Try.ntmps11
  go_wp2_with fail
  refine (HR.out _).mono ?_
  rintro e w' ⟨rfl, rfl⟩
  go_wp2
  go_ret2
  exact ⟨rfl, rfl⟩
def Pl.one (T B C : Nat) : Pl := ⟨T, fun _ => B, fun _ => C, fun _ => .slice none 0 0⟩
theorem ht_one {w : World} {T B C : Nat} {n : Int} (h1 : RowAt w T 59 [.int .i32 0, .int .u32 0, .int .i64 1]) (h2 : RowAt w B 67 (stopC (.pointer (some ⟨T, 0, none⟩)) (.pointer none) (.slice none 0 0) n 0 0 0 0 C)) (h3 : w.heap[C]? = some (.chan 0 #[] false 0 0 false)) :
    HT w (Pl.one T B C) 0 [⟨-1, n, 0⟩] := by
  refine ⟨h1, fun i hi => ?_, fun i hi => ?_, fun i hi => ?_, fun i j hi hj _ => ?_, fun i j hi hj _ => ?_, fun i j hi hj _ g hg => ?_⟩
  all_goals simp only [List.length_cons, List.length_nil, Nat.zero_add] at hi
  all_goals first | (have hi0 : i = 0 := by omega) | skip
  · subst hi0; exact h2
  · subst hi0; exact h3
  · subst hi0; exact Own.nil w 0 23 1 ptrC
  · simp only [List.length_cons, List.length_nil, Nat.zero_add] at hj; omega
  · simp only [List.length_cons, List.length_nil, Nat.zero_add] at hj; omega
  · simp [Pl.one, Value.ownBlock] at hg
set_option maxRecDepth 100000 in
theorem new_yes (n : Int) (w : World) (h0 : 0 ≤ n) (h1 : n ≤ 1099511627776) : Calls Try.prog 11 #[.int .i64 n] w fun e w' =>
    ∃ x : Pl, e = .returned (.tuple #[.pointer (some ⟨x.B 0, 0, none⟩), .int .i64 0]) ∧ HT w' x 0 [⟨-1, n, 0⟩] ∧ Below w.heap.size w w' ∧ (∀ b, x.own 1 b → w.heap.size ≤ b) := by
  have hr := right_any n
  rw [decide_eq_true h0, decide_eq_true h1] at hr
  have HR := Lib.hid hr
  have hmk := mkc
  clear hr
  go_enter Try.func11, Try.ntmps11
  go_wp2_with fail
  refine (HR.out _).mono ?_
  rintro e w' ⟨rfl, rfl⟩
  go_wp2
  go_ret2
  have r1 := RowAt.new' w' w'.heap.size 59 [.int .i32 0, .int .u32 0, .int .i64 1] rfl
  have r2 := heap_alloc_new (w'.alloc (.cells [Value.int .i32 0, .int .u32 0, .int .i64 1].toArray 59)) (.chan 0 #[] false 0 0 false)
  have r3 := RowAt.new' ((w'.alloc (.cells [Value.int .i32 0, .int .u32 0, .int .i64 1].toArray 59)).alloc (.chan 0 #[] false 0 0 false)) (w'.heap.size + 1 + 1) 67 (stopC (.pointer (some ⟨w'.heap.size, 0, none⟩)) (.pointer none) (.slice none 0 0) n 0 0 0 0 (w'.heap.size + 1)) (by simp)
  refine ⟨Pl.one w'.heap.size (w'.heap.size + 1 + 1) (w'.heap.size + 1), rfl, ht_one ((r1.alloc _).alloc _) r3 ?_, ?_, ?_⟩
  · rw [Below.heap_alloc _ _ _ (by simp)]
    simpa using r2
  · exact (((Below.refl _ _).alloc (Nat.le_refl _) _).alloc (by simp) _).alloc (by simp; omega) _
  · intro b hb
    unfold Pl.own Pl.one at hb
    simp [Value.ownBlock] at hb
    omega
end Go.Proofs.Ytcfdpeafnpeddaa
