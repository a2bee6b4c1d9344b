/- The document's answer for chains: versions with their keys. -/
import Derived.Test.YtkbnfnfjmofcmaaSe
import Derived.Test.YtkbnfnfjmofcmaaKy
namespace Go.Proofs.Ytkbnfnfjmofcmaa
set_option linter.unusedVariables false
set_option linter.unusedSimpArgs false
open Go.RowKit

structure RV where
  key : ByteArray
  v : Ver
def RV.cells (r : RV) : List Value := [.string r.key, .int .i64 r.v.commit, .int .i64 r.v.writer, .bool r.v.found, .string r.v.value]
theorem RV.len (r : RV) : r.cells.length = 5 := rfl
def RV.zero : RV := ⟨ByteArray.empty, Ver.zero⟩
def aboveB (a b : Ver) : Bool := decide (b.commit < a.commit) || (a.commit == b.commit && decide (b.writer < a.writer))
set_option maxHeartbeats 1000000 in
theorem with_any (k : ByteArray) (v : Ver) (w : World) :
    Calls Try.prog 22 #[.string k, .agg #[.int .i64 v.commit, .int .i64 v.writer, .bool v.found, .string v.value]] w fun e w' => e = .returned (.agg #[.string k, .int .i64 v.commit, .int .i64 v.writer, .bool v.found, .string v.value]) ∧ Below w.heap.size w w' := by
  obtain ⟨c, u, f, s⟩ := v
  have hb := (Below.refl w.heap.size w).alloc (Nat.le_refl _) (.cells #[.int .i64 c, .int .i64 u, .bool f, .string s] 27)
  go_enter Try.func22, Try.ntmps22
  have hb1 := hb.alloc hb.size (.cells #[.string k, .int .i64 c, .int .i64 u, .bool f, .string s] 54)
  have r9 := RowAt.new' (w.alloc (.cells #[.int .i64 c, .int .i64 u, .bool f, .string s] 27)) (w.heap.size + 1) 54 [.string k, .int .i64 c, .int .i64 u, .bool f, .string s] (by simp)
  go_wp2
  exact bodyPost_ret (results_c (T := 54) Try.results22 _ rfl r9 Try.underlying54 rfl (by kernel_rfl)) rfl ⟨rfl, hb1⟩
theorem above_any (a b : RV) (w : World) :
    Calls Try.prog 35 #[.agg #[.string a.key, .int .i64 a.v.commit, .int .i64 a.v.writer, .bool a.v.found, .string a.v.value], .agg #[.string b.key, .int .i64 b.v.commit, .int .i64 b.v.writer, .bool b.v.found, .string b.v.value]] w fun e w' => e = .returned (.bool (aboveB a.v b.v)) ∧ Below w.heap.size w w' := by
  obtain ⟨ka, c, u, f, s⟩ := a
  obtain ⟨kb, c', u', f', s'⟩ := b
  have hb := (Below.refl w.heap.size w).alloc (Nat.le_refl _) (.cells #[.string ka, .int .i64 c, .int .i64 u, .bool f, .string s] 54)
  have hb2 := hb.alloc (by simp) (.cells #[.string kb, .int .i64 c', .int .i64 u', .bool f', .string s'] 54)
  have HB := Lib.hid hb2
  clear hb hb2
  by_cases h1 : c' < c
  · have e1 : decide (c' < c) = true := decide_eq_true h1
    go_enter Try.func35, Try.ntmps35
    go_wp2_with fail
    go_ret
    exact ⟨by simp [aboveB, h1], HB.out⟩
  · have e1 : decide (c' < c) = false := decide_eq_false h1
    by_cases h2 : c = c'
    · subst h2
      have e2 : (c == c) = true := by simp
      go_enter Try.func35, Try.ntmps35
      go_wp2_with fail
      go_ret
      exact ⟨by simp [aboveB], HB.out⟩
    · have e2 : (c == c') = false := by simpa using h2
      go_enter Try.func35, Try.ntmps35
      go_wp2_with fail
      go_ret
      exact ⟨by simp [aboveB, h1, h2], HB.out⟩
theorem like_any (v : Ver) (r : RV) (w : World) :
    Calls Try.prog 32 #[.agg #[.int .i64 v.commit, .int .i64 v.writer, .bool v.found, .string v.value], .agg #[.string r.key, .int .i64 r.v.commit, .int .i64 r.v.writer, .bool r.v.found, .string r.v.value]] w fun e w' => e = .returned (.bool (Ver.eqb v r.v)) ∧ Below w.heap.size w w' := by
  obtain ⟨c, u, f, s⟩ := v
  obtain ⟨kb, c', u', f', s'⟩ := r
  have hb := (Below.refl w.heap.size w).alloc (Nat.le_refl _) (.cells #[.int .i64 c, .int .i64 u, .bool f, .string s] 27)
  have hb2 := hb.alloc (by simp) (.cells #[.string kb, .int .i64 c', .int .i64 u', .bool f', .string s'] 54)
  have HB := Lib.hid hb2
  clear hb hb2
  cases e1 : (c == c') <;> cases e2 : (u == u') <;> cases e3 : (f == f') <;> cases e4 : (s.toList == s'.toList)
  all_goals
    go_enter Try.func32, Try.ntmps32
    go_wp2_with fail
    go_ret
    exact ⟨by simp [Ver.eqb, e1, e2, e3, e4], HB.out⟩

end Go.Proofs.Ytkbnfnfjmofcmaa
