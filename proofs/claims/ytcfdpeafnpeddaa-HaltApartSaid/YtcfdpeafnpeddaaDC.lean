/- The document's tree of stops: a child. -/
import Derived.Test.YtcfdpeafnpeddaaD
import Derived.Deep.RegionLaw
import Derived.Deep.AppendLies
namespace Go.Proofs.Ytcfdpeafnpeddaa
set_option linter.unusedVariables false
set_option linter.unusedSimpArgs false
open Go.Conc Go.RowKit Go.MuLone

theorem info48 : ∃ i, Try.prog.info? 48 = some i ∧ i.zero = some (.agg #[.int .i64 0, .int .i64 0, .int .i64 0]) ∧ i.size = 3 ∧ i.bytes = 24 := by
  have h : (Try.prog.info? 48).map (fun i => (i.zero, i.size, i.bytes)) = some (some (.agg #[.int .i64 0, .int .i64 0, .int .i64 0]), 3, 24) := by kernel_rfl
  cases hi : Try.prog.info? 48 with
  | none => rw [hi] at h; cases h
  | some i =>
    rw [hi] at h
    simp only [Option.map_some, Option.some.injEq, Prod.mk.injEq] at h
    exact ⟨i, rfl, h.1, h.2.1, h.2.2⟩
theorem grown_row {w w' : World} {g b : Nat} {T : TypeId} {cs : List Value} (hg : w.grownBy w' (some g)) (hb : b ≠ g) (h : RowAt w b T cs) : RowAt w' b T cs :=
  h.turn ((Turn.refl (fun k => k = g) w).grown hg fun k hk => .inl (Option.some.inj hk).symm) hb
theorem new_cells (w : World) (T : TypeId) (cs : List Value) : ∀ j u, cs[j]? = some u → ((w.drew).alloc (.cells cs.toArray T)).cell? (Addr.add ⟨w.heap.size, 0, none⟩ j) = some u := by
  intro j u hj
  exact World.news_of_block (w := (w.drew).alloc (.cells cs.toArray T)) (B := w.heap.size) (RowAt.new w.drew T cs) j u (by simpa using hj)
theorem Own.drew {α : Type} {w : World} {base : Nat} {e : TypeId} {size : Nat} {f : α → List Value} {v : Value} {xs : List α} (h : Own w base e size f v xs) : Own w.drew base e size f v xs := h
theorem dgrow_step {ops : Array Oper} {o : Oper} {a : Act} {K : Act → World → Prop} {Q : Exit → Act → World → Prop} {E : Prop} {W2 : World} {n g cap base : Nat} {st : List St} (s : St)
    (hgd : o.guard = none) (ho : o.op = .call { callee := .builtin .append, args := #[.tmp 37, .tmp 39], argTypes := #[38, 38] })
    (o2 : Own W2 base 48 3 St.cells (.slice (some ⟨g, 0, none⟩) n cap) st) (hn : n = st.length) (hs : a.eval (.tmp 37) = .slice (some ⟨g, 0, none⟩) n cap) (hx : a.eval (.tmp 39) = .slice (some ⟨W2.heap.size, 0, none⟩) 1 1) (h4 : n < 256) (hbs : base ≤ W2.heap.size)
    (h : ∀ g' cap' w', w'.ownsRow base 48 3 (.slice (some ⟨g', 0, none⟩) (n + 1) cap') (n + 1) (st.flatMap St.cells ++ s.cells) → ((W2.drew).alloc (.cells s.cells.toArray 48)).grownBy w' (some g) → (some g = some g' ∨ g' = W2.heap.size + 1) → K (a.put o.dst (.slice (some ⟨g', 0, none⟩) (n + 1) cap')) w') :
    if Region.wanted o (yielded ops a.tmps) = true then Oper.wp Try.prog o a ((W2.drew).alloc (.cells s.cells.toArray 48)) K Q else E := by
  obtain ⟨i0, hi0, hz0, hz1, hz2⟩ := info48
  have o3 := (Own.drew o2).alloc (.cells s.cells.toArray 48)
  unfold Own at o3
  rw [← hn] at o3
  refine step_append_lies _ hgd _ _ _ ho base 48 i0 (.agg #[.int .i64 0, .int .i64 0, .int .i64 0]) 3 24 Try.underlying38 hi0 hz0 hz1 hz2 rfl (by decide) _ n _ hs o3 ⟨W2.heap.size, 0, none⟩ 1 1 s.cells hx rfl (new_cells W2 48 s.cells) ?_ (by decide) (by unfold maxLen; omega) (by omega) ?_ (W2.heap.size + 1) ?_ ?_
  · intro u hu
    simp [St.cells] at hu
    rcases hu with rfl | rfl | rfl <;> rfl
  · have : ((W2.drew).alloc (.cells s.cells.toArray 48)).heap.size = W2.heap.size + 1 := (by simp : (W2.alloc (.cells s.cells.toArray 48)).heap.size = W2.heap.size + 1)
    omega
  · exact (by simp : (W2.alloc (.cells s.cells.toArray 48)).heap.size = W2.heap.size + 1)
  · intro g' cap' w' h1 h2 h3 _
    exact h g' cap' w' h1 h2 h3
/-- The rows grown by one. -/
theorem RT.grown {w w2 w5 : World} {r g cap base n g' cap' : Nat} {st : List St} {s : St} (h : RT w r g cap base st) (hn : n = st.length) (hb : Below w.heap.size w w2)
    (hown : w5.ownsRow base 48 3 (.slice (some ⟨g', 0, none⟩) (n + 1) cap') (n + 1) (st.flatMap St.cells ++ s.cells)) (hg : w2.grownBy w5 (some g)) (hat : some g = some g' ∨ w.heap.size ≤ g') :
    RT (w5.setCell ⟨r, 0, none⟩ (.slice (some ⟨g', 0, none⟩) (n + 1) cap')) r g' cap' base (st ++ [s]) ∧ Turn (fun b => b = r ∨ b = g) w (w5.setCell ⟨r, 0, none⟩ (.slice (some ⟨g', 0, none⟩) (n + 1) cap')) ∧ (g' = g ∨ w.heap.size ≤ g') := by
  subst hn
  have o : Own w5 base 48 3 St.cells (.slice (some ⟨g', 0, none⟩) (st.length + 1) cap') (st ++ [s]) := Own.snoc hown
  have t5 : Turn (fun b => b = g) w w5 := (Turn.of_below hb _).grown hg fun k hk => .inl (by injection hk with hk; exact hk.symm)
  have hd5 : RowAt w5 r 40 [.slice (some ⟨g, 0, none⟩) st.length cap] := h.head.turn t5 h.ne
  rcases o.cases with ⟨e, e2⟩ | ⟨g'', cap'', rest, e, hb', h1, h2, hr⟩
  · simp at e2
  · injection e with e3 e4 e5
    injection e3 with e3
    injection e3 with e3
    subst e3
    refine ⟨⟨?_, ?_⟩, ?_, ?_⟩
    · rw [List.length_append, List.length_singleton]
      exact hd5.set 0 _
    · rw [List.length_append, List.length_singleton]
      exact o.turn (S := fun b => b = r) (Turn.setCell (S := fun b => b = r) (p := ⟨r, 0, none⟩) (Turn.refl _ _) (.inl rfl) _) (fun k hk e' => by
        injection hk with hk
        subst hk
        exact hd5.ne hr (by decide) e'.symm)
    · exact (t5.mono fun i _ hi => .inr hi).setCell (.inl (.inl rfl)) _
    · rcases hat with h | h
      · exact .inl (Option.some.inj h).symm
      · exact .inr h
def DPost (r g base : Nat) (w : World) (q : Int × List St) (e : Ending) (w' : World) : Prop :=
  ∃ g' cap', e = .returned (.int .i64 q.1) ∧ RT w' r g' cap' base q.2 ∧ Turn (fun b => b = r ∨ b = g) w w' ∧ (g' = g ∨ w.heap.size ≤ g')
set_option maxRecDepth 100000 in
set_option maxHeartbeats 3200000 in
theorem dchild_any (r g cap base : Nat) (st : List St) (i : Nat) (m : Int) (w : World) (h : RT w r g cap base st) (hi : i < st.length) (hI : SInv st) (hb : base ≤ w.heap.size) :
    Calls Try.prog 28 #[.pointer (some ⟨r, 0, none⟩), .int .i64 i, .int .i64 m] w (DPost r g base w (childF st i m)) := by
  have hcc := h.head_cell
  have hcap := h.caps
  obtain ⟨a0, a1, a2⟩ := h.at hi
  have hfr := h.head.frozen 0
  have hrl := h.head.lt
  have hgl := h.ltg
  obtain ⟨n, hn⟩ : ∃ n, n = st.length := ⟨_, rfl⟩
  have hle := hI.le
  have hi' := hi
  rw [← hn] at hcc hcap hi hle
  obtain ⟨q, hq⟩ : ∃ q, q = (ns st i).cause := ⟨_, rfl⟩
  rw [← hq] at a2
  obtain ⟨res, hres⟩ : ∃ res, res = childF st i m := ⟨_, rfl⟩
  rw [← hres]
  have HRes := Lib.hid hres
  have HH := Lib.hid h
  have HN := Lib.hid hn
  have HI := Lib.hid hI
  have HQ := Lib.hid hq
  have HLT := Lib.hid hi'
  clear h hn hI hq hi' hres
  obtain ⟨i0, hi0, hz0, hz1, hz2⟩ := info48
  by_cases h1 : m < 0
  · have e : res = (10, st) := by rw [HRes.out, childF, if_neg (by omega)]
    subst e
    go_enter Try.func28, Try.ntmps28
    go_wp2
    go_ret
    exact ⟨g, cap, rfl, HH.out, Turn.refl _ _, .inl rfl⟩
  · by_cases h2 : 1099511627776 < m
    · have e : res = (10, st) := by rw [HRes.out, childF, if_neg (by omega)]
      subst e
      go_enter Try.func28, Try.ntmps28
      go_wp2
      go_ret
      exact ⟨g, cap, rfl, HH.out, Turn.refl _ _, .inl rfl⟩
    · by_cases h3 : n = 256
      · subst h3
        have e : res = (11, st) := by rw [HRes.out, childF, if_pos (by omega), if_pos (by rw [← HN.out]; omega)]
        subst e
        go_enter Try.func28, Try.ntmps28
        go_wp2
        go_ret
        exact ⟨g, cap, rfl, HH.out, Turn.refl _ _, .inl rfl⟩
      · have h4 : n < 256 := by omega
        by_cases h5 : q = 0
        · subst h5
          have e : res = (0, st ++ [⟨i, m, 0⟩]) := by rw [HRes.out, childF, if_pos (by omega), if_neg (by rw [← HN.out]; omega), childC, if_pos HQ.out.symm]; rfl
          subst e
          go_enter Try.func28, Try.ntmps28
          go_wp2_with fail
          have R2 := Lib.hid (RowAt.new w 48 [.int .i64 i, .int .i64 m, .int .i64 0])
          have b2 := (Below.refl w.heap.size w).alloc (Nat.le_refl _) (.cells [Value.int .i64 i, .int .i64 m, .int .i64 0].toArray 48)
          have B2 := Lib.hid b2
          have H2 := Lib.hid (HH.out.below b2)
          clear b2
          simp only [List.toArray] at R2 B2 H2
          generalize w.alloc (.cells #[.int .i64 i, .int .i64 m, .int .i64 0] 48) = W2 at R2 B2 H2 ⊢
          have hsz2 := B2.out.size
          have hd2 := H2.out.head
          rw [← HN.out] at hd2
          have D2 := Lib.hid hd2
          have hs0 : W2.cell? ⟨r, 0, none⟩ = some (.slice (some ⟨g, 0, none⟩) n cap) := hd2.cell 0
          have hf0 : W2.frozen? ⟨r, 0, none⟩ = false := hd2.frozen 0
          have hs1 := R2.out.cell 0
          have hs2 := R2.out.cell 1
          have hs3 := R2.out.cell 2
          have o2 := H2.out.own
          rw [← HN.out] at o2
          have O2 := Lib.hid o2
          have hbs : base ≤ W2.heap.size := Nat.le_trans hb hsz2
          have hrg : w.heap.size ≠ g := by omega
          have hrg2 : r ≠ g := HH.out.ne
          clear o2 hd2 hcc hfr
          have hal : ∀ o, (W2.alloc o).cell? ⟨r, 0, none⟩ = some (.slice (some ⟨g, 0, none⟩) n cap) := fun o => (D2.out.alloc o).cell 0
          go_region_law
            ((refine dgrow_step ⟨i, m, 0⟩ (by rfl) (by rfl) O2.out HN.out (by rfl) (by rfl) h4 hbs ?_; intro g' cap' w5 hown' hgrow hat; have R5 := Lib.hid (grown_row hgrow hrg ((RowAt.drew R2.out).alloc _)); have D5 := Lib.hid (grown_row hgrow hrg2 ((RowAt.drew D2.out).alloc _)); have hf5 := D5.out.frozen 0; have hc5 : w5.cell? ⟨r, 0, none⟩ = some (.slice (some ⟨g, 0, none⟩) n cap) := D5.out.cell 0))
          all_goals
            obtain ⟨hrt, htn, hor⟩ := RT.grown (s := ⟨i, m, 0⟩) HH.out HN.out (B2.out.drew.alloc hsz2 (.cells (St.cells ⟨i, m, 0⟩).toArray 48)) hown' hgrow (hat.imp id fun h => by omega)
            have RTN := Lib.hid hrt
            have TTN := Lib.hid htn
            have OOR := Lib.hid hor
            clear hrt htn hor hown' hgrow hat a0 a1 a2 hs0 hf0 hs1 hs2 hs3 hal hf5 hc5
            go_wp2
            go_ret
            exact ⟨g', cap', rfl, RTN.out, TTN.out, OOR.out⟩
        · have e : res = (0, st ++ [⟨i, m, 3⟩]) := by rw [HRes.out, childF, if_pos (by omega), if_neg (by rw [← HN.out]; omega), childC, if_neg (by rw [← HQ.out]; exact h5)]; rfl
          subst e
          go_enter Try.func28, Try.ntmps28
          go_wp2_with fail
          have R2 := Lib.hid (RowAt.new w 48 [.int .i64 i, .int .i64 m, .int .i64 3])
          have b2 := (Below.refl w.heap.size w).alloc (Nat.le_refl _) (.cells [Value.int .i64 i, .int .i64 m, .int .i64 3].toArray 48)
          have B2 := Lib.hid b2
          have H2 := Lib.hid (HH.out.below b2)
          clear b2
          simp only [List.toArray] at R2 B2 H2
          generalize w.alloc (.cells #[.int .i64 i, .int .i64 m, .int .i64 3] 48) = W2 at R2 B2 H2 ⊢
          have hsz2 := B2.out.size
          have hd2 := H2.out.head
          rw [← HN.out] at hd2
          have D2 := Lib.hid hd2
          have hs0 : W2.cell? ⟨r, 0, none⟩ = some (.slice (some ⟨g, 0, none⟩) n cap) := hd2.cell 0
          have hf0 : W2.frozen? ⟨r, 0, none⟩ = false := hd2.frozen 0
          have hs1 := R2.out.cell 0
          have hs2 := R2.out.cell 1
          have hs3 := R2.out.cell 2
          have o2 := H2.out.own
          rw [← HN.out] at o2
          have O2 := Lib.hid o2
          have hbs : base ≤ W2.heap.size := Nat.le_trans hb hsz2
          have hrg : w.heap.size ≠ g := by omega
          have hrg2 : r ≠ g := HH.out.ne
          clear o2 hd2 hcc hfr
          have hal : ∀ o, (W2.alloc o).cell? ⟨r, 0, none⟩ = some (.slice (some ⟨g, 0, none⟩) n cap) := fun o => (D2.out.alloc o).cell 0
          go_region_law
            ((refine dgrow_step ⟨i, m, 3⟩ (by rfl) (by rfl) O2.out HN.out (by rfl) (by rfl) h4 hbs ?_; intro g' cap' w5 hown' hgrow hat; have R5 := Lib.hid (grown_row hgrow hrg ((RowAt.drew R2.out).alloc _)); have D5 := Lib.hid (grown_row hgrow hrg2 ((RowAt.drew D2.out).alloc _)); have hf5 := D5.out.frozen 0; have hc5 : w5.cell? ⟨r, 0, none⟩ = some (.slice (some ⟨g, 0, none⟩) n cap) := D5.out.cell 0))
          all_goals
            obtain ⟨hrt, htn, hor⟩ := RT.grown (s := ⟨i, m, 3⟩) HH.out HN.out (B2.out.drew.alloc hsz2 (.cells (St.cells ⟨i, m, 3⟩).toArray 48)) hown' hgrow (hat.imp id fun h => by omega)
            have RTN := Lib.hid hrt
            have TTN := Lib.hid htn
            have OOR := Lib.hid hor
            clear hrt htn hor hown' hgrow hat a0 a1 a2 hs0 hf0 hs1 hs2 hs3 hal hf5 hc5
            go_wp2
            go_ret
            exact ⟨g', cap', rfl, RTN.out, TTN.out, OOR.out⟩
end Go.Proofs.Ytcfdpeafnpeddaa
