/- Versions, their order, and the search for a time in a chain: contracts. -/
import Derived.Test.YtkbnfnfjmofcmaaLib
import Derived.Test.YtkbnfnfjmofcmaaProg
import Derived.StillTailTactics
import Derived.BigGuardPart
namespace Go.Proofs.Ytkbnfnfjmofcmaa
set_option linter.unusedVariables false
set_option linter.unusedSimpArgs false
open Go.RowKit

/-- A version. -/
structure Ver where
  commit : Int
  writer : Int
  found : Bool
  value : ByteArray
def Ver.cells (v : Ver) : List Value := [.int .i64 v.commit, .int .i64 v.writer, .bool v.found, .string v.value]
theorem Ver.len (v : Ver) : v.cells.length = 4 := rfl
def Ver.zero : Ver := ⟨0, 0, false, ByteArray.empty⟩

def cmpI (a b : Int) : Int := if a < b then -1 else if b < a then 1 else 0
def orI : List Int → Int
  | [] => 0
  | x :: xs => if x = 0 then orI xs else x
theorem compare_any (a b : Int) (w : World) : Calls Try.prog 26 #[.int .i64 a, .int .i64 b] w fun e w' => e = .returned (.int .i64 (cmpI a b)) ∧ w = w' := by
  by_cases h : a < b
  · have h2 : ¬ b < a := by omega
    go_enter Try.func26, Try.ntmps26
    go_wp2
    go_ret
    exact ⟨by simp [cmpI, h], rfl⟩
  · by_cases h2 : b < a
    all_goals
      go_enter Try.func26, Try.ntmps26
      go_wp2
      go_ret
      exact ⟨ret_int (by unfold cmpI; split <;> (try split) <;> omega), rfl⟩
theorem orI_zeros (k : Nat) (xs : List Int) : (∀ i, i < k → xs.getD i 0 = 0) → orI xs = orI (xs.drop k) := by
  induction k generalizing xs with
  | zero => intro _; rfl
  | succ k ih =>
    intro h
    cases xs with
    | nil => rfl
    | cons x xs =>
      have h0 := h 0 (by omega)
      simp at h0
      subst h0
      rw [List.drop_succ_cons, ← ih xs (fun i hi => by simpa using h (i + 1) (by omega))]
      simp [orI]
set_option maxHeartbeats 400000 in
theorem or_any (g : Nat) (xs : List Int) (w : World) (hl : xs.length ≤ 100) (h : RowAt w g 3 (xs.map (Value.int .i64))) :
    Calls Try.prog 25 #[.slice (some ⟨g, 0, none⟩) xs.length xs.length] w fun e w' => e = .returned (.int .i64 (orI xs)) ∧ w = w' := by
  have hc : ∀ k, k < xs.length → w.cell? ⟨g, k, none⟩ = some (.int .i64 (xs.getD k 0)) := fun k hk => by rw [h.cell]; simp [hk]
  clear h
  go_enter Try.func25, Try.ntmps25
  go_wp2
  go_loop [8, 5] (fun i v => ∃ k : Nat, k ≤ xs.length ∧ i = .int .i64 k ∧ Hid (∀ i, i < k → xs.getD i 0 = 0)) (fun i _ => xs.length - (intOf i).toNat)
  case atStart => exact ⟨0, by omega, rfl, fun i hi => by omega⟩
  case round =>
    obtain ⟨k, hk, rfl, hz⟩ := hrel
    by_cases hlt : k < xs.length
    · have hck := hc k hlt
      clear hc
      obtain ⟨x, hx⟩ : ∃ x, x = xs.getD k 0 := ⟨_, rfl⟩
      rw [← hx] at hck
      have HX := Lib.hid hx
      clear hx
      by_cases hx0 : x = 0
      · subst hx0
        go_wp2
        go_round
        case rel => exact ⟨k + 1, by omega, by go_num, fun i hi => by rcases Nat.lt_succ_iff_lt_or_eq.1 hi with h | rfl; exact hz.out i h; exact HX.out.symm⟩
        case measure => simp [intOf]; omega
      · go_wp2
        go_ret
        refine ⟨ret_int ?_, rfl⟩
        rw [orI_zeros k xs hz.out, List.drop_eq_getElem_cons hlt]
        have e : xs[k] = x := by rw [HX.out]; simp [hlt]
        rw [e]
        simp [orI, hx0]
    · go_wp2
      go_ret
      refine ⟨ret_int ?_, rfl⟩
      rw [orI_zeros k xs hz.out, List.drop_eq_nil_of_le (by omega)]
      rfl

/-- Is a version right? -/
def rightV (v : Ver) : Bool := decide (0 ≤ v.commit ∧ v.commit ≤ 1099511627776 ∧ 0 ≤ v.writer ∧ v.writer < 4096 ∧ v.value.size ≤ 16) && (v.found || v.value.toList.isEmpty)
theorem rightV_no {c u : Int} {f : Bool} {s : ByteArray} (h : ¬ (0 ≤ c ∧ c ≤ 1099511627776 ∧ 0 ≤ u ∧ u < 4096 ∧ s.size ≤ 16)) : false = rightV ⟨c, u, f, s⟩ := by
  unfold rightV
  rw [decide_eq_false h]
  rfl
theorem rightV_yes {c u : Int} {f : Bool} {s : ByteArray} (h : 0 ≤ c ∧ c ≤ 1099511627776 ∧ 0 ≤ u ∧ u < 4096 ∧ s.size ≤ 16) : (f || s.toList.isEmpty) = rightV ⟨c, u, f, s⟩ := by
  unfold rightV
  rw [decide_eq_true h]
  rfl
set_option maxHeartbeats 1000000 in
theorem right_any (v : Ver) (w : World) : Calls Try.prog 24 #[.agg #[.int .i64 v.commit, .int .i64 v.writer, .bool v.found, .string v.value]] w fun e w' => e = .returned (.bool (rightV v)) ∧ Below w.heap.size w w' := by
  obtain ⟨c, u, f, s⟩ := v
  have hb := (Below.refl w.heap.size w).alloc (Nat.le_refl _) (.cells #[.int .i64 c, .int .i64 u, .bool f, .string s] 27)
  by_cases h1 : 0 ≤ c
  · by_cases h2 : c ≤ 1099511627776
    · by_cases h3 : 0 ≤ u
      · by_cases h4 : u < 4096
        · by_cases h5 : s.size ≤ 16
          · cases f with
            | true =>
              have h5' : (s.size : Int) ≤ 16 := by omega
              go_enter Try.func24, Try.ntmps24
              go_wp2
              go_ret
              exact ⟨ret_bool (rightV_yes (f := true) ⟨h1, h2, h3, h4, h5⟩), hb⟩
            | false =>
              have h5' : (s.size : Int) ≤ 16 := by omega
              go_enter Try.func24, Try.ntmps24
              go_wp2
              go_ret
              exact ⟨ret_bool (rightV_yes (f := false) ⟨h1, h2, h3, h4, h5⟩), hb⟩
          · have h5' : ¬ (s.size : Int) ≤ 16 := by omega
            go_enter Try.func24, Try.ntmps24
            go_wp2
            go_ret
            exact ⟨ret_bool (rightV_no (by omega)), hb⟩
        · go_enter Try.func24, Try.ntmps24
          go_wp2
          go_ret
          exact ⟨ret_bool (rightV_no (by omega)), hb⟩
      · go_enter Try.func24, Try.ntmps24
        go_wp2
        go_ret
        exact ⟨ret_bool (rightV_no (by omega)), hb⟩
    · go_enter Try.func24, Try.ntmps24
      go_wp2
      go_ret
      exact ⟨ret_bool (rightV_no (by omega)), hb⟩
  · go_enter Try.func24, Try.ntmps24
    go_wp2
    go_ret
    exact ⟨ret_bool (rightV_no (by omega)), hb⟩

end Go.Proofs.Ytkbnfnfjmofcmaa
