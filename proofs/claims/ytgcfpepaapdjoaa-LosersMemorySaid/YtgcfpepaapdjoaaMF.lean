/- The document's Merge, walked. -/
import Derived.Test.YtgcfpepaapdjoaaRC
namespace Go.Proofs.Ytgcfpepaapdjoaa
set_option linter.unusedVariables false
set_option linter.unusedSimpArgs false
open Go.RowKit

def mErr (o : Int) (n : Nat) (rs : List (List Row)) : Int := if newErr o n ≠ 0 then newErr o n else chk o rs
theorem newErr_zero {o k : Int} (h : newErr o k = 0) : (o = 1 ∨ o = 2) ∧ 1 ≤ k ∧ k ≤ 64 := by
  unfold newErr at h
  split at h
  · split at h
    · constructor <;> assumption
    · omega
  · omega
theorem flat_take {ls : List (List Row)} {i : Nat} {l : List Row} (h : ls[i]? = some l) : (ls.take (i + 1)).flatten = (ls.take i).flatten ++ l := by
  obtain ⟨hi, rfl⟩ := List.getElem?_eq_some_iff.1 h
  rw [List.take_succ_eq_append_getElem hi, List.flatten_append]
  simp
theorem flat_part {ls : List (List Row)} {i k : Nat} {l : List Row} (h : ls[i]? = some l) : (ls.take i).flatten.length + (l.take k).length ≤ ls.flatten.length := by
  have h1 := congrArg List.length (flat_take h)
  have h2 : (ls.take (i + 1)).flatten.length ≤ ls.flatten.length := by
    conv => rhs; rw [← List.take_append_drop (i + 1) ls, List.flatten_append, List.length_append]
    omega
  rw [List.length_append] at h1
  have h3 := List.length_take_le k l
  rw [List.length_take] at *
  omega
/-- What the document's Merge answers. -/
def RMPost (o : Int) (rs : List (List Row)) (E : Int) (w : World) (e : Ending) (w' : World) : Prop :=
  (E ≠ 0 → e = .returned (.tuple #[.slice none 0 0, .int .i64 E]) ∧ Below w.heap.size w w') ∧ (E = 0 → ∃ v out, e = .returned (.tuple #[v, .int .i64 0]) ∧ IsSorted o rs.flatten out ∧ Own w' w.heap.size 45 7 Row.cells v (out.map Nm.row) ∧ Below w.heap.size w w')
set_option maxRecDepth 100000 in
set_option maxHeartbeats 1600000 in
theorem refmerge_no (o : Int) (A : Option Addr) (n c : Nat) (w : World) (h : newErr o n ≠ 0) : Calls Try.prog 20 #[.int .i64 o, .slice A n c] w fun e w' => e = .returned (.tuple #[.slice none 0 0, .int .i64 (newErr o n)]) ∧ w = w' := by
  obtain ⟨E, hE⟩ : ∃ z, z = newErr o n := ⟨_, rfl⟩
  have HE := Lib.hid hE
  rw [← hE]
  by_cases h1 : o < 1
  · have h91 : E = 91 := by rw [hE]; unfold newErr; rw [if_neg (by omega)]
    subst h91
    clear hE h
    go_enter Try.func20, Try.ntmps20
    go_wp2
    go_ret2
    exact ⟨rfl, rfl⟩
  · by_cases h2 : 2 < o
    · have h91 : E = 91 := by rw [hE]; unfold newErr; rw [if_neg (by omega)]
      subst h91
      clear hE h
      go_enter Try.func20, Try.ntmps20
      go_wp2
      go_ret2
      exact ⟨rfl, rfl⟩
    · have h110 : E = 110 ∧ ((n : Int) < 1 ∨ 64 < (n : Int)) := by
        rw [hE]
        rw [hE] at HE
        unfold newErr at h ⊢
        rw [if_pos (by omega)] at h ⊢
        split at h
        · omega
        · rename_i h9
          rw [if_neg h9]
          exact ⟨rfl, by omega⟩
      obtain ⟨h110, h3⟩ := h110
      subst h110
      have ho1 : o ≤ 2 := by omega
      have ho2 : 1 ≤ o := by omega
      clear hE h
      by_cases h4 : (n : Int) < 1
      · obtain rfl : n = 0 := by omega
        go_enter Try.func20, Try.ntmps20
        go_wp2
        go_ret2
        exact ⟨rfl, rfl⟩
      · have h5 : (64 : Int) < (n : Int) := by omega
        go_enter Try.func20, Try.ntmps20
        go_wp2
        go_ret2
        exact ⟨rfl, rfl⟩
end Go.Proofs.Ytgcfpepaapdjoaa
