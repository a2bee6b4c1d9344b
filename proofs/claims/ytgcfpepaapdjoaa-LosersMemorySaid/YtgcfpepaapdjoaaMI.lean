/- Lists of lists that a call has made itself; and Merge where it refuses. -/
import Derived.Test.YtgcfpepaapdjoaaME
import Derived.Test.YtgcfpepaapdjoaaMH
namespace Go.Proofs.Ytgcfpepaapdjoaa
set_option linter.unusedVariables false
set_option linter.unusedSimpArgs false
open Go.RowKit

theorem own_ne {α β : Type} {w : World} {base base' : Nat} {e e' : TypeId} {s s' : Nat} {f : α → List Value} {f' : β → List Value} {v v' : Value} {xs : List α} {ys : List β} (h : Own w base e s f v xs) (h' : Own w base' e' s' f' v' ys) (ne : e ≠ e') (b : Nat) (hb : v.ownBlock = some b) : v'.ownBlock ≠ some b := by
  intro hb'
  rcases h.cases with ⟨rfl, -⟩ | ⟨g, cap, rest, rfl, -, -, -, hr⟩
  · simp [Value.ownBlock] at hb
  · rcases h'.cases with ⟨rfl, -⟩ | ⟨g', cap', rest', rfl, -, -, -, hr'⟩
    · simp [Value.ownBlock] at hb'
    · have e1 : g = b := by simpa [Value.ownBlock] using hb
      have e2 : g' = b := by simpa [Value.ownBlock] using hb'
      subst e1
      subst e2
      exact hr.ne hr' ne rfl
theorem ll_one (x : LL) : ∀ u ∈ x.cells, u.oneCell' = true := by
  intro u hu
  simp [LL.cells] at hu
  subst hu
  rfl
/-- A list of lists of the call's own. -/
structure LLOwn (w : World) (B : Nat) (eo ei : TypeId) (v : Value) (xs : List LL) : Prop where
  outer : Own w B eo 1 LL.cells v xs
  inner : ∀ l ∈ xs, Own w B ei 7 Row.cells l.val l.rows
theorem LLOwn.below {w w' : World} {B : Nat} {eo ei : TypeId} {v : Value} {xs : List LL} (h : LLOwn w B eo ei v xs) (hb : Below w.heap.size w w') : LLOwn w' B eo ei v xs := ⟨h.outer.below hb, fun l hl => (h.inner l hl).below hb⟩
theorem LLOwn.nil (w : World) (B : Nat) (eo ei : TypeId) : LLOwn w B eo ei (.slice none 0 0) [] := ⟨Own.nil _ _ _ _ _, fun l hl => by cases hl⟩
theorem LLOwn.rd {w : World} {B : Nat} {eo ei : TypeId} {A : Option Addr} {n c : Nat} {xs : List LL} (h : LLOwn w B eo ei (.slice A n c) xs) : ListsAt w A xs :=
  ⟨Own.rd h.outer LL.len, fun l hl => Own.rd (h.inner l hl) Row.cells_length⟩
theorem own_grown {α β : Type} {w w' : World} {B B' : Nat} {e e' : TypeId} {s s' : Nat} {f : α → List Value} {f' : β → List Value} {v v' : Value} {xs : List α} {ys : List β} (h : Own w B e s f v xs) (h' : Own w B' e' s' f' v' ys) (ne : e ≠ e') (hg : w.grownBy w' v'.ownBlock) : Own w' B e s f v xs :=
  h.turn ((Turn.refl (fun k => v'.ownBlock = some k) w).grown hg fun k hk => .inl hk) fun k hk e => own_ne h h' ne k hk e
/-- Another slice grows. -/
theorem LLOwn.far {α : Type} {w w' : World} {B B' : Nat} {eo ei e' : TypeId} {s' : Nat} {f' : α → List Value} {v v' : Value} {xs : List LL} {ys : List α} (h : LLOwn w B eo ei v xs) (h' : Own w B' e' s' f' v' ys) (n1 : eo ≠ e') (n2 : ei ≠ e') (hg : w.grownBy w' v'.ownBlock) : LLOwn w' B eo ei v xs :=
  ⟨own_grown h.outer h' n1 hg, fun l hl => own_grown (h.inner l hl) h' n2 hg⟩
/-- It grows itself, by a list that is there already. -/
theorem LLOwn.snoc {w w' : World} {B : Nat} {eo ei : TypeId} {v v' : Value} {xs : List LL} {x : LL} (h : LLOwn w B eo ei v xs) (hx : Own w B ei 7 Row.cells x.val x.rows) (ne : ei ≠ eo) (hg : w.grownBy w' v.ownBlock) (ho : Own w' B eo 1 LL.cells v' (xs ++ [x])) : LLOwn w' B eo ei v' (xs ++ [x]) := by
  refine ⟨ho, fun l hl => ?_⟩
  rcases List.mem_append.1 hl with hl | hl
  · exact own_grown (h.inner l hl) h.outer ne hg
  · rw [List.mem_singleton] at hl
    subst hl
    exact own_grown hx h.outer ne hg
set_option maxRecDepth 100000 in
set_option maxHeartbeats 1600000 in
theorem merge_no (o : Int) (A : Option Addr) (n c : Nat) (w : World) (h : newErr o n ≠ 0) : Calls Try.prog 19 #[.int .i64 o, .slice A n c] w fun e w' => e = .returned (.tuple #[.slice none 0 0, .int .i64 (newErr o n)]) ∧ w = w' := by
  have H := Lib.hid h
  obtain ⟨E, hE⟩ : ∃ z, z = newErr o n := ⟨_, rfl⟩
  have HE := Lib.hid hE
  have h7 : (E == 0) = false := by simpa [hE] using h
  have h8 : (E != 0) = true := by simpa [hE] using h
  rw [← hE]
  clear hE h
  go_enter Try.func19, Try.ntmps19
  go_wp2_with fail
  refine (new_no o n w H.out).mono ?_
  rw [← HE.out]
  rintro e w' ⟨rfl, rfl⟩
  go_wp2_with fail
  all_goals (go_ret2; exact ⟨rfl, rfl⟩)
set_option maxRecDepth 100000 in
set_option maxHeartbeats 1600000 in
theorem merge_bad (o : Int) (ho : o = 1 ∨ o = 2) (A : Option Addr) (n c : Nat) (ls : List LL) (w : World) (hn : ls.length = n) (h1 : 1 ≤ n) (h2 : n ≤ 64) (H : ListsAt w A ls) (hl : ∀ l ∈ ls, l.rows.length ≤ maxLen) (hc : chk o (ls.map LL.rows) ≠ 0) :
    Calls Try.prog 19 #[.int .i64 o, .slice A n c] w fun e w' => e = .returned (.tuple #[.slice none 0 0, .int .i64 (chk o (ls.map LL.rows))]) ∧ Below w.heap.size w w' := by
  have HN := Lib.hid hn
  have HH := Lib.hid H
  have HL := Lib.hid hl
  have HO := Lib.hid ho
  obtain ⟨E, hE⟩ : ∃ z, z = chk o (ls.map LL.rows) := ⟨_, rfl⟩
  have HE := Lib.hid hE
  have h7 : (E == 0) = false := by simpa [hE] using hc
  have h8 : (E != 0) = true := by simpa [hE] using hc
  rw [← hE]
  clear hE hc hn H hl ho
  go_enter Try.func19, Try.ntmps19
  go_wp2_with fail
  refine (tr_new o n w HO.out h1 h2).mono ?_
  rintro e w1 ⟨g, bs, bl, rfl, t1, b1, s1, s2, s3⟩
  have B1 := Lib.hid b1
  clear t1 b1 s1 s2 s3
  go_wp2_with fail
  refine (check_any o HO.out A n c ls w1 HN.out h2 (HH.out.below B1.out) HL.out).mono ?_
  rw [← HE.out]
  rintro e w2 ⟨rfl, b2⟩
  have B2 := Lib.hid (B1.out.trans (b2.mono B1.out.size))
  clear b2 B1
  go_wp2_with fail
  all_goals (go_ret2; exact ⟨rfl, B2.out⟩)
/-- What both Merges answer. -/
def Good (o : Int) (n : Nat) (rs : List (List Row)) (out : List Nm) : Prop := (mErr o n rs ≠ 0 → out = []) ∧ (mErr o n rs = 0 → (o = 1 ∨ o = 2) ∧ IsSorted o rs.flatten out)
theorem Good.unique {o : Int} {n : Nat} {rs : List (List Row)} {p q : List Nm} (hp : Good o n rs p) (hq : Good o n rs q) : p = q := by
  by_cases h : mErr o n rs = 0
  · exact (hp.2 h).2.unique (hp.2 h).1 (hq.2 h).2
  · rw [hp.1 h, hq.1 h]
theorem Good.length {o : Int} {n : Nat} {rs : List (List Row)} {p : List Nm} (hp : Good o n rs p) : p.length ≤ rs.flatten.length := by
  by_cases h : mErr o n rs = 0
  · rw [(hp.2 h).2.length]; exact Nat.le_refl _
  · rw [hp.1 h]; exact Nat.zero_le _
def MergePost (o : Int) (n : Nat) (rs : List (List Row)) (T : TypeId) (w : World) (e : Ending) (w' : World) : Prop :=
  ∃ v out, e = .returned (.tuple #[v, .int .i64 (mErr o n rs)]) ∧ Good o n rs out ∧ Own w' w.heap.size T 7 Row.cells v (out.map Nm.row) ∧ Below w.heap.size w w'
theorem merge_all (o : Int) (A : Option Addr) (n c : Nat) (ls : List LL) (w : World) (hn : ls.length = n) (H : ListsAt w A ls) (hl : ∀ l ∈ ls, l.rows.length ≤ maxLen) (ht : (ls.map LL.rows).flatten.length ≤ 2000000000000) :
    Calls Try.prog 19 #[.int .i64 o, .slice A n c] w (MergePost o n (ls.map LL.rows) 29 w) := by
  by_cases hg : newErr o n = 0
  · obtain ⟨ho, h1, h2⟩ := newErr_zero hg
    have hm : mErr o n (ls.map LL.rows) = chk o (ls.map LL.rows) := by unfold mErr; rw [if_neg (by omega)]
    by_cases hc : chk o (ls.map LL.rows) = 0
    · refine (merge_yes o ho A n c ls w hn (by omega) (by omega) H hl hc _ rfl ht).mono ?_
      rintro e w' ⟨v, out, rfl, h3, h4, h5⟩
      exact ⟨v, out, by rw [hm, hc], ⟨fun h => absurd (hm.trans hc) h, fun _ => ⟨ho, h3⟩⟩, h4, h5⟩
    · refine (merge_bad o ho A n c ls w hn (by omega) (by omega) H hl hc).mono ?_
      rintro e w' ⟨rfl, h3⟩
      exact ⟨_, [], by rw [hm], ⟨fun _ => rfl, fun h => absurd (hm.symm.trans h) hc⟩, Own.nil _ _ _ _ _, h3⟩
  · have hm : mErr o n (ls.map LL.rows) = newErr o n := by unfold mErr; rw [if_pos hg]
    refine (merge_no o A n c w hg).mono ?_
    rintro e w' ⟨rfl, rfl⟩
    exact ⟨_, [], by rw [hm], ⟨fun _ => rfl, fun h => absurd (hm.symm.trans h) hg⟩, Own.nil _ _ _ _ _, Below.refl _ _⟩
theorem refmerge_all (o : Int) (A : Option Addr) (n c : Nat) (ls : List LL) (w : World) (hn : ls.length = n) (H : ListsAt w A ls) (hl : ∀ l ∈ ls, l.rows.length ≤ maxLen) (ht : (ls.map LL.rows).flatten.length < 16777216) :
    Calls Try.prog 20 #[.int .i64 o, .slice A n c] w (MergePost o n (ls.map LL.rows) 45 w) := by
  by_cases hg : newErr o n = 0
  · obtain ⟨ho, h1, h2⟩ := newErr_zero hg
    have hm : mErr o n (ls.map LL.rows) = chk o (ls.map LL.rows) := by unfold mErr; rw [if_neg (by omega)]
    refine (refmerge_any o ho A n c ls w hn (by omega) (by omega) H hl _ rfl ht).mono ?_
    rintro e w' ⟨h3, h4⟩
    by_cases hc : chk o (ls.map LL.rows) = 0
    · obtain ⟨v, out, rfl, h5, h6, h7⟩ := h4 hc
      exact ⟨v, out, by rw [hm, hc], ⟨fun h => absurd (hm.trans hc) h, fun _ => ⟨ho, h5⟩⟩, h6, h7⟩
    · obtain ⟨rfl, h5⟩ := h3 hc
      exact ⟨_, [], by rw [hm], ⟨fun _ => rfl, fun h => absurd (hm.symm.trans h) hc⟩, Own.nil _ _ _ _ _, h5⟩
  · have hm : mErr o n (ls.map LL.rows) = newErr o n := by unfold mErr; rw [if_pos hg]
    refine (refmerge_no o A n c w hg).mono ?_
    rintro e w' ⟨rfl, rfl⟩
    exact ⟨_, [], by rw [hm], ⟨fun _ => rfl, fun h => absurd (hm.symm.trans h) hg⟩, Own.nil _ _ _ _ _, Below.refl _ _⟩
end Go.Proofs.Ytgcfpepaapdjoaa
