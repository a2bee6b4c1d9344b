/- The search for a time in a chain: contracts. -/
import Derived.Test.YtkbnfnfjmofcmaaC1
import Derived.Deep.CutRange
namespace Go.Proofs.Ytkbnfnfjmofcmaa
set_option linter.unusedVariables false
set_option linter.unusedSimpArgs false
open Go.RowKit

theorem closure_any (v : Ver) (t : Int) (w : World) : Calls Try.prog 37 #[.agg #[.int .i64 v.commit, .int .i64 v.writer, .bool v.found, .string v.value], .int .i64 t] w fun e w' => e = .returned (.int .i64 (if v.commit ≤ t then -1 else 1)) ∧ Below w.heap.size w w' := by
  obtain ⟨c, u, f, s⟩ := v
  have hb := (Below.refl w.heap.size w).alloc (Nat.le_refl _) (.cells #[.int .i64 c, .int .i64 u, .bool f, .string s] 27)
  by_cases h : c ≤ t
  all_goals
    go_enter Try.func37, Try.ntmps37
    go_wp2
    go_ret
    exact ⟨by simp [h], hb⟩

/-- How many versions are not behind a time. -/
def cut (l : List Ver) (t : Int) : Nat := (l.takeWhile fun v => decide (v.commit ≤ t)).length
def Rising (l : List Ver) : Prop := l.Pairwise fun a b => a.commit ≤ b.commit
theorem cut_le (l : List Ver) (t : Int) : cut l t ≤ l.length := by
  induction l with
  | nil => simp [cut]
  | cons x l ih =>
    unfold cut at ih ⊢
    rw [List.takeWhile_cons]
    split <;> simp <;> omega
theorem cut_is {l : List Ver} {t : Int} {i : Nat} (hi : i ≤ l.length) (h1 : ∀ k x, k < i → l[k]? = some x → x.commit ≤ t) (h2 : ∀ x, l[i]? = some x → t < x.commit) : cut l t = i := by
  induction l generalizing i with
  | nil => simp at hi; subst hi; rfl
  | cons x l ih =>
    unfold cut
    rw [List.takeWhile_cons]
    cases i with
    | zero =>
      have := h2 x rfl
      rw [if_neg (by simp; omega)]
      rfl
    | succ i =>
      have := h1 0 x (by omega) rfl
      rw [if_pos (by simpa using this), List.length_cons]
      have := ih (i := i) (by simpa using hi) (fun k y hk hy => h1 (k + 1) y (by omega) (by simpa using hy)) (fun y hy => h2 y (by simpa using hy))
      unfold cut at this
      rw [this]

/-- A slice that may be read as these versions: nil, or the head of a block. -/
def VersAt (w : World) (v : Value) (l : List Ver) : Prop :=
  (v = .slice none 0 0 ∧ l = []) ∨ ∃ g cap rest, v = .slice (some ⟨g, 0, none⟩) l.length cap ∧ l.length ≤ cap ∧ cap ≤ maxLen ∧ RowAt w g 27 (l.flatMap Ver.cells ++ rest)
theorem VersAt.below {w w' : World} {v : Value} {l : List Ver} (h : VersAt w v l) (hb : Below w.heap.size w w') : VersAt w' v l := by
  rcases h with h | ⟨g, cap, rest, h1, h2, h3, h4⟩
  · exact .inl h
  · exact .inr ⟨g, cap, rest, h1, h2, h3, h4.below hb⟩
theorem ver_at {w : World} {g : Nat} {l : List Ver} {rest : List Value} (h : RowAt w g 27 (l.flatMap Ver.cells ++ rest)) {i : Nat} {x : Ver} (hx : l[i]? = some x) :
    w.cell? ⟨g, i * 4, none⟩ = some (.int .i64 x.commit) ∧ w.cell? ⟨g, i * 4 + 1, none⟩ = some (.int .i64 x.writer) ∧ w.cell? ⟨g, i * 4 + 2, none⟩ = some (.bool x.found) ∧ w.cell? ⟨g, i * 4 + 3, none⟩ = some (.string x.value) := by
  have hi : i < l.length := (List.getElem?_eq_some_iff.1 hx).1
  have e : ∀ j, j < 4 → w.cell? ⟨g, i * 4 + j, none⟩ = x.cells[j]? := fun j hj => by
    rw [h.cell, List.getElem?_append_left (by rw [flat_length Ver.len]; omega)]
    exact flat_at Ver.len l i j hj hx
  exact ⟨e 0 (by omega), e 1 (by omega), e 2 (by omega), e 3 (by omega)⟩
def half (i j : Nat) : Nat := (i + j) / 2
theorem wrap_in {x : Int} (h0 : 0 ≤ x) (h1 : x < 4611686018427387904) : IntKind.i64.wrap x = x := by
  simp only [IntKind.wrap, IntKind.bits, IntKind.signed]; simp; split <;> omega
theorem VersAt.form {w : World} {v : Value} {l : List Ver} (h : VersAt w v l) : ∃ A cap, v = .slice A l.length cap ∧ cap ≤ maxLen ∧ l.length ≤ cap := by
  rcases h with ⟨rfl, rfl⟩ | ⟨g, cap, rest, rfl, h2, h3, h4⟩
  · exact ⟨none, 0, rfl, by unfold maxLen; omega, by simp⟩
  · exact ⟨_, cap, rfl, h3, h2⟩
theorem VersAt.cells {w : World} {A : Option Addr} {n cap : Nat} {l : List Ver} (h : VersAt w (.slice A n cap) l) {i : Nat} (hi : i < l.length) : ∃ g x, A = some ⟨g, 0, none⟩ ∧ l[i]? = some x ∧ w.cell? ⟨g, i * 4, none⟩ = some (.int .i64 x.commit) ∧ w.cell? ⟨g, i * 4 + 1, none⟩ = some (.int .i64 x.writer) ∧ w.cell? ⟨g, i * 4 + 2, none⟩ = some (.bool x.found) ∧ w.cell? ⟨g, i * 4 + 3, none⟩ = some (.string x.value) := by
  rcases h with ⟨h, rfl⟩ | ⟨g, cap, rest, e, h2, h3, h4⟩
  · simp at hi
  · injection e with e1 e2 e3
    exact ⟨g, l[i], e1, List.getElem?_eq_getElem hi, ver_at h4 (List.getElem?_eq_getElem hi)⟩
theorem Rising.le {l : List Ver} (h : Rising l) {i k : Nat} {x y : Ver} (hik : i ≤ k) (hx : l[i]? = some x) (hy : l[k]? = some y) : x.commit ≤ y.commit := by
  obtain ⟨hi, rfl⟩ := List.getElem?_eq_some_iff.1 hx
  obtain ⟨hk, rfl⟩ := List.getElem?_eq_some_iff.1 hy
  rcases Nat.lt_or_eq_of_le hik with h1 | rfl
  · exact List.pairwise_iff_getElem.1 h i k hi hk h1
  · exact Int.le_refl _
set_option maxRecDepth 100000 in
set_option maxHeartbeats 1000000 in
theorem bsf_any (v : Value) (l : List Ver) (t : Int) (w : World) (hv : VersAt w v l) (hml : l.length ≤ 281474976710656) (hr : Rising l) :
    Calls Try.prog 36 #[v, .int .i64 t, .func (.func 37) #[] #[]] w fun e w' => e = .returned (.tuple #[.int .i64 (cut l t), .bool false]) ∧ Below w.heap.size w w' := by
  obtain ⟨A, cap, rfl, -, -⟩ := hv.form
  obtain ⟨n, hn⟩ : ∃ n, n = l.length := ⟨_, rfl⟩
  rw [← hn] at hv hml ⊢
  have HN := Lib.hid hn
  have HV := Lib.hid hv
  have HR := Lib.hid hr
  clear hn hv hr
  go_enter Try.func36, Try.ntmps36
  go_wp2
  go_loopw [9, 10] (fun a b wr => ∃ i j : Nat, a = .int .i64 i ∧ b = .int .i64 j ∧ i ≤ j ∧ j ≤ n ∧ Hid (∀ k x, k < i → l[k]? = some x → x.commit ≤ t) ∧ Hid (∀ k x, j ≤ k → l[k]? = some x → t < x.commit) ∧ Hid (Below w.heap.size w wr)) (fun a b _ => (intOf b).toNat - (intOf a).toNat)
  case atStart => exact ⟨0, n, rfl, rfl, by omega, by omega, fun k x hk => by omega, fun k x hk hx => by have := (List.getElem?_eq_some_iff.1 hx).1; have := HN.out; omega, Below.refl _ _⟩
  case round =>
    obtain ⟨i, j, rfl, rfl, hij, hjn, H1, H2, HB⟩ := hrel
    by_cases hlt : i < j
    · have hh : (i + j) / 2 < l.length := by have := HN.out; omega
      obtain ⟨g, x, rfl, hx, c0, c1, c2, c3⟩ := (HV.out.below HB.out).cells hh
      have hh1 : (i + j) / 2 < n := by omega
      have hh2 : i ≤ (i + j) / 2 := by omega
      have hh3 : (i + j) / 2 < j := by omega
      have HX := Lib.hid hx
      clear hx hh
      by_cases hc : x.commit ≤ t
      all_goals
        go_wp2_with (go_at_call 37; refine (closure_any x t _).mono ?_; rintro e w1 ⟨rfl, hb1⟩)
        have HB1 := Lib.hid (HB.out.trans (hb1.mono HB.out.size))
        clear hb1 c0 c1 c2 c3
        go_wp2
        go_roundw
        case rel => first
          | exact ⟨(i + j) / 2 + 1, j, by go_num, rfl, by omega, by omega, fun k y hk hy => by have := HR.out.le (i := k) (k := (i + j) / 2) (by omega) hy HX.out; omega, H2.out, HB1.out⟩
          | exact ⟨i, (i + j) / 2, rfl, by go_num, by omega, by omega, H1.out, fun k y hk hy => by have := HR.out.le (i := (i + j) / 2) (k := k) hk HX.out hy; omega, HB1.out⟩
        case measure => simp [intOf]; omega
    · have hij' : i = j := by omega
      subst hij'
      have HC := Lib.hid (cut_is (l := l) (t := t) (i := i) (by have := HN.out; omega) H1.out (fun x hx => H2.out _ x (Nat.le_refl _) hx))
      by_cases hln : i < n
      · obtain ⟨g, x, rfl, hx, c0, c1, c2, c3⟩ := (HV.out.below HB.out).cells (i := i) (by have := HN.out; omega)
        have hgt := H2.out i x (Nat.le_refl _) hx
        have hle : ¬ x.commit ≤ t := by omega
        have HX := Lib.hid hx
        clear hx
        go_wp2_with (go_at_call 37; refine (closure_any x t _).mono ?_; rintro e w1 ⟨rfl, hb1⟩)
        have HB1 := Lib.hid (HB.out.trans (hb1.mono HB.out.size))
        clear hb1 c0 c1 c2 c3
        go_wp2
        go_ret2
        exact ⟨by rw [HC.out]; rfl, HB1.out⟩
      · go_wp2
        go_ret2
        exact ⟨by rw [HC.out]; rfl, HB.out⟩
theorem upTo_any (v : Value) (l : List Ver) (t : Int) (w : World) (hv : VersAt w v l) (hml : l.length ≤ 281474976710656) (hr : Rising l) :
    Calls Try.prog 23 #[v, .int .i64 t] w fun e w' => e = .returned (.int .i64 (cut l t)) ∧ Below w.heap.size w w' := by
  go_enter Try.func23, Try.ntmps23
  go_wp2_with (go_at_call 36; refine (bsf_any v l t _ hv hml hr).mono ?_; rintro e w1 ⟨rfl, hb1⟩)
  go_ret
  exact ⟨rfl, hb1⟩

end Go.Proofs.Ytkbnfnfjmofcmaa
