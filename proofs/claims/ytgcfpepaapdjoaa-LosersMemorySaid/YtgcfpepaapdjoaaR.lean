/- The rows functions that the losers laws reach: contracts. -/
import Derived.Test.YtgcfpepaapdjoaaLib
import Derived.Test.YtgcfpepaapdjoaaProg
import Derived.StillTailTactics
namespace Go.Proofs.Ytgcfpepaapdjoaa
set_option linter.unusedVariables false
set_option linter.unusedSimpArgs false
open Go.RowKit

/-- A row of the rows package. -/
structure Row where
  kind : Int
  time : Int
  seq : Int
  index : Int
  frm : Int
  to : Int
  body : ByteArray
def Row.cells (r : Row) : List Value := [.int .i64 r.kind, .int .i64 r.time, .int .i64 r.seq, .int .i64 r.index, .int .i64 r.frm, .int .i64 r.to, .string r.body]
theorem Row.cells_length (r : Row) : r.cells.length = 7 := rfl
def Row.zero : Row := ⟨0, 0, 0, 0, 0, 0, ByteArray.empty⟩

def cmpI (a b : Int) : Int := if a < b then -1 else if b < a then 1 else 0
def orI : List Int → Int
  | [] => 0
  | x :: xs => if x = 0 then orI xs else x
theorem compare_any (a b : Int) (w : World) : Calls Try.prog 39 #[.int .i64 a, .int .i64 b] w fun e w' => e = .returned (.int .i64 (cmpI a b)) ∧ w = w' := by
  by_cases h : a < b
  · have h2 : ¬ b < a := by omega
    go_enter Try.func39, Try.ntmps39
    go_wp2
    go_ret
    exact ⟨by simp [cmpI, h], rfl⟩
  · by_cases h2 : b < a
    all_goals
      go_enter Try.func39, Try.ntmps39
      go_wp2
      go_ret
      exact ⟨ret_int (by unfold cmpI; split <;> (try split) <;> omega), rfl⟩
theorem orI_zeros (k : Nat) (xs : List Int) : (∀ i, i < k → xs.getD i 0 = 0) → orI xs = orI (xs.drop k) := by
  induction k generalizing xs with
  | zero => intro _; rfl
  | succ k ih =>
    intro h
    cases xs with
    | nil => rfl
    | cons x xs =>
      have h0 := h 0 (by omega)
      simp at h0
      subst h0
      rw [List.drop_succ_cons, ← ih xs (fun i hi => by simpa using h (i + 1) (by omega))]
      simp [orI]
set_option maxHeartbeats 400000 in
theorem or_any (g : Nat) (xs : List Int) (w : World) (hl : xs.length ≤ 100) (h : RowAt w g 3 (xs.map (Value.int .i64))) :
    Calls Try.prog 38 #[.slice (some ⟨g, 0, none⟩) xs.length xs.length] w fun e w' => e = .returned (.int .i64 (orI xs)) ∧ w = w' := by
  have hc : ∀ k, k < xs.length → w.cell? ⟨g, k, none⟩ = some (.int .i64 (xs.getD k 0)) := fun k hk => by rw [h.cell]; simp [hk]
  clear h
  go_enter Try.func38, Try.ntmps38
  go_wp2
  go_loop [8, 5] (fun i v => ∃ k : Nat, k ≤ xs.length ∧ i = .int .i64 k ∧ Hid (∀ i, i < k → xs.getD i 0 = 0)) (fun i _ => xs.length - (intOf i).toNat)
  case atStart => exact ⟨0, by omega, rfl, fun i hi => by omega⟩
  case round =>
    obtain ⟨k, hk, rfl, hz⟩ := hrel
    by_cases hlt : k < xs.length
    · have hck := hc k hlt
      clear hc
      obtain ⟨x, hx⟩ : ∃ x, x = xs.getD k 0 := ⟨_, rfl⟩
      rw [← hx] at hck
      have HX := Lib.hid hx
      clear hx
      by_cases hx0 : x = 0
      · subst hx0
        go_wp2
        go_round
        case rel => exact ⟨k + 1, by omega, by go_num, fun i hi => by rcases Nat.lt_succ_iff_lt_or_eq.1 hi with h | rfl; exact hz.out i h; exact HX.out.symm⟩
        case measure => simp [intOf]; omega
      · go_wp2
        go_ret
        refine ⟨ret_int ?_, rfl⟩
        rw [orI_zeros k xs hz.out, List.drop_eq_getElem_cons hlt]
        have e : xs[k] = x := by rw [HX.out]; simp [hlt]
        rw [e]
        simp [orI, hx0]
    · go_wp2
      go_ret
      refine ⟨ret_int ?_, rfl⟩
      rw [orI_zeros k xs hz.out, List.drop_eq_nil_of_le (by omega)]
      rfl

def cmpRow (o : Int) (a b : Row) : Int :=
  if o = 1 then orI [cmpI a.time b.time, cmpI a.kind b.kind, cmpI a.index b.index]
  else if o = 2 then orI [cmpI a.time b.time, cmpI a.seq b.seq, cmpI a.index b.index] else 0

set_option maxHeartbeats 1000000 in
theorem cmp_one (a b : Row) (w : World) : Calls Try.prog 37 #[.int .i64 1, .agg #[.int .i64 a.kind, .int .i64 a.time, .int .i64 a.seq, .int .i64 a.index, .int .i64 a.frm, .int .i64 a.to, .string a.body], .agg #[.int .i64 b.kind, .int .i64 b.time, .int .i64 b.seq, .int .i64 b.index, .int .i64 b.frm, .int .i64 b.to, .string b.body]] w fun e w' => e = .returned (.int .i64 (cmpRow 1 a b)) ∧ Below w.heap.size w w' := by
  obtain ⟨a0, a1, a2, a3, a4, a5, a6⟩ := a
  obtain ⟨b0, b1, b2, b3, b4, b5, b6⟩ := b
  go_enter Try.func37, Try.ntmps37
  go_wp2
  have hu29 := Try.underlying29
  generalize hW : (w.alloc _).alloc _ = W
  have B1 : Below w.heap.size w W := by rw [← hW]; exact ((Below.refl _ _).alloc (Nat.le_refl _) _).alloc (by simp) _
  have hc0 : ∀ j, W.cell? ⟨w.heap.size, j, none⟩ = #[Value.int .i64 a0, .int .i64 a1, .int .i64 a2, .int .i64 a3, .int .i64 a4, .int .i64 a5, .string a6][j]? := fun j => by rw [← hW]; simp
  have hc1 : ∀ j, W.cell? ⟨w.heap.size + 1, j, none⟩ = #[Value.int .i64 b0, .int .i64 b1, .int .i64 b2, .int .i64 b3, .int .i64 b4, .int .i64 b5, .string b6][j]? := fun j => by rw [← hW]; simp
  clear hW
  refine wp_region_still_tail 15 (by kernel_rfl) (by kernel_rfl) ?_
  simp only [List.take_succ_cons, List.take_zero, List.drop_succ_cons, List.drop_zero]
  repeat (first | still_step | still_call (compare_any _ _ _).mono (fun _ _ h => ⟨h.1, h.2.symm⟩))
  refine wpStill_nil ?_
  change wpList _ _ _ _ _ W.drew
  have B2 : Below w.heap.size w W.drew := B1.drew
  generalize W.drew = W2 at B2 ⊢
  clear hc0 hc1 B1
  go_wp2_with (go_at_call 38; refine (or_any W2.heap.size [cmpI a1 b1, cmpI a0 b0, cmpI a3 b3] _ (by simp) (RowAt.new _ _ _)).mono ?_; rintro e w' ⟨rfl, rfl⟩)
  go_ret
  exact ⟨rfl, B2.alloc B2.size _⟩
set_option maxHeartbeats 1000000 in
theorem cmp_two (a b : Row) (w : World) : Calls Try.prog 37 #[.int .i64 2, .agg #[.int .i64 a.kind, .int .i64 a.time, .int .i64 a.seq, .int .i64 a.index, .int .i64 a.frm, .int .i64 a.to, .string a.body], .agg #[.int .i64 b.kind, .int .i64 b.time, .int .i64 b.seq, .int .i64 b.index, .int .i64 b.frm, .int .i64 b.to, .string b.body]] w fun e w' => e = .returned (.int .i64 (cmpRow 2 a b)) ∧ Below w.heap.size w w' := by
  obtain ⟨a0, a1, a2, a3, a4, a5, a6⟩ := a
  obtain ⟨b0, b1, b2, b3, b4, b5, b6⟩ := b
  go_enter Try.func37, Try.ntmps37
  go_wp2
  have hu29 := Try.underlying29
  generalize hW : (w.alloc _).alloc _ = W
  have B1 : Below w.heap.size w W := by rw [← hW]; exact ((Below.refl _ _).alloc (Nat.le_refl _) _).alloc (by simp) _
  have hc0 : ∀ j, W.cell? ⟨w.heap.size, j, none⟩ = #[Value.int .i64 a0, .int .i64 a1, .int .i64 a2, .int .i64 a3, .int .i64 a4, .int .i64 a5, .string a6][j]? := fun j => by rw [← hW]; simp
  have hc1 : ∀ j, W.cell? ⟨w.heap.size + 1, j, none⟩ = #[Value.int .i64 b0, .int .i64 b1, .int .i64 b2, .int .i64 b3, .int .i64 b4, .int .i64 b5, .string b6][j]? := fun j => by rw [← hW]; simp
  clear hW
  refine wp_region_still_tail 15 (by kernel_rfl) (by kernel_rfl) ?_
  simp only [List.take_succ_cons, List.take_zero, List.drop_succ_cons, List.drop_zero]
  repeat (first | still_step | still_call (compare_any _ _ _).mono (fun _ _ h => ⟨h.1, h.2.symm⟩))
  refine wpStill_nil ?_
  change wpList _ _ _ _ _ W.drew
  have B2 : Below w.heap.size w W.drew := B1.drew
  generalize W.drew = W2 at B2 ⊢
  clear hc0 hc1 B1
  go_wp2_with (go_at_call 38; refine (or_any W2.heap.size [cmpI a1 b1, cmpI a2 b2, cmpI a3 b3] _ (by simp) (RowAt.new _ _ _)).mono ?_; rintro e w' ⟨rfl, rfl⟩)
  go_ret
  exact ⟨rfl, B2.alloc B2.size _⟩
/-- In a known order. -/
theorem cmp_any (o : Int) (ho : o = 1 ∨ o = 2) (a b : Row) (w : World) : Calls Try.prog 37 #[.int .i64 o, .agg #[.int .i64 a.kind, .int .i64 a.time, .int .i64 a.seq, .int .i64 a.index, .int .i64 a.frm, .int .i64 a.to, .string a.body], .agg #[.int .i64 b.kind, .int .i64 b.time, .int .i64 b.seq, .int .i64 b.index, .int .i64 b.frm, .int .i64 b.to, .string b.body]] w fun e w' => e = .returned (.int .i64 (cmpRow o a b)) ∧ Below w.heap.size w w' := by
  rcases ho with rfl | rfl
  · exact cmp_one a b w
  · exact cmp_two a b w

theorem within_any (n m : Int) (w : World) : Calls Try.prog 34 #[.int .i64 n, .int .i64 m] w fun e w' => e = .returned (.bool (decide (0 ≤ n) && decide (n ≤ m))) ∧ w = w' := by
  by_cases h : 0 ≤ n
  · by_cases h2 : n ≤ m
    all_goals
      go_enter Try.func34, Try.ntmps34
      go_wp2
      go_ret
      exact ⟨by simp [h, h2], rfl⟩
  · go_enter Try.func34, Try.ntmps34
    go_wp2
    go_ret
    have : decide (0 ≤ n) = false := by simp; omega
    exact ⟨by rw [this]; rfl, rfl⟩
/-- A right row. -/
def Row.Right (r : Row) : Prop := (1 ≤ r.kind ∧ r.kind ≤ 3) ∧ (0 ≤ r.time ∧ r.time ≤ 1099511627776) ∧ (0 ≤ r.seq ∧ r.seq ≤ 1048575) ∧ (0 ≤ r.index ∧ r.index ≤ 4095) ∧ (0 ≤ r.frm ∧ r.frm ≤ 1099511627776) ∧ (0 ≤ r.to ∧ r.to ≤ 1099511627776) ∧ r.body.size ≤ 512
instance (r : Row) : Decidable r.Right := by unfold Row.Right; exact inferInstance
def Row.ok (r : Row) : Bool := decide r.Right
theorem Row.ok_iff (r : Row) : r.ok = true ↔ r.Right := by unfold Row.ok; simp
theorem Row.ok_eq {r : Row} {b : Bool} (h : b = true ↔ r.Right) : b = r.ok := by rw [Bool.eq_iff_iff, h, Row.ok_iff]
set_option maxHeartbeats 400000 in
theorem valid_any (r : Row) (w : World) : Calls Try.prog 25 #[.agg #[.int .i64 r.kind, .int .i64 r.time, .int .i64 r.seq, .int .i64 r.index, .int .i64 r.frm, .int .i64 r.to, .string r.body]] w fun e w' => e = .returned (.bool r.ok) ∧ Below w.heap.size w w' := by
  obtain ⟨a, b, c, d, e, f, s⟩ := r
  obtain ⟨P, hP⟩ : ∃ P, P = Row.ok ⟨a, b, c, d, e, f, s⟩ := ⟨_, rfl⟩
  rw [← hP]
  have HP := Lib.hid hP
  clear hP
  go_enter Try.func25, Try.ntmps25
  go_wp2_with (go_at_call 34; refine (within_any _ _ _).mono ?_; rintro e w' ⟨rfl, rfl⟩)
  all_goals go_ret
  all_goals refine ⟨ret_bool ?_, (Below.refl _ _).alloc (Nat.le_refl _) _⟩
  all_goals
    rw [HP.out]
    refine Row.ok_eq ?_
    unfold Row.Right
    simp
    try omega
set_option maxHeartbeats 800000 in
theorem refvalid_any (r : Row) (w : World) : Calls Try.prog 17 #[.agg #[.int .i64 r.kind, .int .i64 r.time, .int .i64 r.seq, .int .i64 r.index, .int .i64 r.frm, .int .i64 r.to, .string r.body]] w fun e w' => e = .returned (.bool r.ok) ∧ Below w.heap.size w w' := by
  obtain ⟨a, b, c, d, e, f, s⟩ := r
  obtain ⟨P, hP⟩ : ∃ P, P = Row.ok ⟨a, b, c, d, e, f, s⟩ := ⟨_, rfl⟩
  rw [← hP]
  have HP := Lib.hid hP
  clear hP
  go_enter Try.func17, Try.ntmps17
  go_wp2
  all_goals go_ret
  all_goals refine ⟨ret_bool ?_, (Below.refl _ _).alloc (Nat.le_refl _) _⟩
  all_goals
    rw [HP.out]
    refine Row.ok_eq ?_
    unfold Row.Right
    simp
    try omega

/-- Does a come before b? -/
def before (o : Int) (a b : Row) : Bool := decide (cmpRow o a b < 0)
theorem orI3 (a b c : Int) : orI [a, b, c] = if a = 0 then if b = 0 then c else b else a := by
  by_cases ha : a = 0 <;> by_cases hb : b = 0 <;> by_cases hc : c = 0 <;> simp [orI, ha, hb, hc]
theorem before_one (a b : Row) : before 1 a b = if a.time = b.time then if a.kind = b.kind then decide (a.index < b.index) else decide (a.kind < b.kind) else decide (a.time < b.time) := by
  unfold before cmpRow
  rw [if_pos rfl, orI3]
  unfold cmpI
  rw [Bool.eq_iff_iff]
  repeat' split
  all_goals simp
  all_goals omega
theorem before_two (a b : Row) : before 2 a b = if a.time = b.time then if a.seq = b.seq then decide (a.index < b.index) else decide (a.seq < b.seq) else decide (a.time < b.time) := by
  unfold before cmpRow
  rw [if_neg (by omega), if_pos rfl, orI3]
  unfold cmpI
  rw [Bool.eq_iff_iff]
  repeat' split
  all_goals simp
  all_goals omega
set_option maxHeartbeats 800000 in
theorem before_any (o : Int) (ho : o = 1 ∨ o = 2) (a b : Row) (w : World) : Calls Try.prog 22 #[.int .i64 o, .agg #[.int .i64 a.kind, .int .i64 a.time, .int .i64 a.seq, .int .i64 a.index, .int .i64 a.frm, .int .i64 a.to, .string a.body], .agg #[.int .i64 b.kind, .int .i64 b.time, .int .i64 b.seq, .int .i64 b.index, .int .i64 b.frm, .int .i64 b.to, .string b.body]] w fun e w' => e = .returned (.bool (before o a b)) ∧ Below w.heap.size w w' := by
  rcases ho with rfl | rfl
  · rw [before_one]
    obtain ⟨a0, a1, a2, a3, a4, a5, a6⟩ := a
    obtain ⟨b0, b1, b2, b3, b4, b5, b6⟩ := b
    simp only []
    by_cases h1 : a1 = b1
    · by_cases h2 : a0 = b0
      all_goals
        go_enter Try.func22, Try.ntmps22
        go_wp2
        go_ret
        exact ⟨ret_bool (by simp [h1, h2]), ((Below.refl _ _).alloc (Nat.le_refl _) _).alloc (by simp) _⟩
    · go_enter Try.func22, Try.ntmps22
      go_wp2
      go_ret
      exact ⟨ret_bool (by simp [h1]), ((Below.refl _ _).alloc (Nat.le_refl _) _).alloc (by simp) _⟩
  · rw [before_two]
    obtain ⟨a0, a1, a2, a3, a4, a5, a6⟩ := a
    obtain ⟨b0, b1, b2, b3, b4, b5, b6⟩ := b
    simp only []
    by_cases h1 : a1 = b1
    · by_cases h2 : a2 = b2
      all_goals
        go_enter Try.func22, Try.ntmps22
        go_wp2
        go_ret
        exact ⟨ret_bool (by simp [h1, h2]), ((Below.refl _ _).alloc (Nat.le_refl _) _).alloc (by simp) _⟩
    · go_enter Try.func22, Try.ntmps22
      go_wp2
      go_ret
      exact ⟨ret_bool (by simp [h1]), ((Below.refl _ _).alloc (Nat.le_refl _) _).alloc (by simp) _⟩
end Go.Proofs.Ytgcfpepaapdjoaa
