/- The document's tree: its contracts. -/
import Derived.Test.YtgcfpepaapdjoaaQ
namespace Go.Proofs.Ytgcfpepaapdjoaa
set_option linter.unusedVariables false
set_option linter.unusedSimpArgs false
open Go.RowKit

structure RT where
  order : Int
  st : List Int
  rows : List Row
def RT.head (t : RT) (rs rr : Nat) : List Value := [.int .i64 t.order, .slice (some ⟨rs, 0, none⟩) t.st.length t.st.length, .slice (some ⟨rr, 0, none⟩) t.st.length t.st.length]
structure IsRT (w : World) (r rs rr : Nat) (t : RT) : Prop where
  main : RowAt w r 70 (t.head rs rr)
  st : RowAt w rs 3 (t.st.map (Value.int .i64))
  rows : RowAt w rr 45 (t.rows.flatMap Row.cells)
  len : t.rows.length = t.st.length
  ord : t.order = 1 ∨ t.order = 2
  pos : 1 ≤ t.st.length
  le : t.st.length ≤ 64
theorem IsRT.turn {S : Nat → Prop} {w w' : World} {r rs rr : Nat} {t : RT} (h : IsRT w r rs rr t) (ht : Turn S w w') (h1 : ¬ S r) (h2 : ¬ S rs) (h3 : ¬ S rr) : IsRT w' r rs rr t :=
  ⟨h.main.turn ht h1, h.st.turn ht h2, h.rows.turn ht h3, h.len, h.ord, h.pos, h.le⟩
theorem IsRT.below {w w' : World} {r rs rr : Nat} {t : RT} (h : IsRT w r rs rr t) (hb : Below w.heap.size w w') : IsRT w' r rs rr t := h.turn (Turn.of_below hb fun _ => False) id id id
theorem IsRT.cells {w : World} {r rs rr : Nat} {t : RT} (h : IsRT w r rs rr t) : ∀ j, w.cell? ⟨r, j, none⟩ = [Value.int .i64 t.order, .slice (some ⟨rs, 0, none⟩) t.st.length t.st.length, .slice (some ⟨rr, 0, none⟩) t.st.length t.st.length][j]? := h.main.cell
theorem IsRT.st_at {w : World} {r rs rr : Nat} {t : RT} (h : IsRT w r rs rr t) {n : Nat} (hn : n < t.st.length) : w.cell? ⟨rs, n, none⟩ = some (.int .i64 (t.st.getD n 0)) := by
  rw [h.st.cell]
  simp [hn]
theorem IsRT.drew {w : World} {r rs rr : Nat} {t : RT} (h : IsRT w r rs rr t) : IsRT w.drew r rs rr t := ⟨h.main, h.st, h.rows, h.len, h.ord, h.pos, h.le⟩
theorem IsRT.r_rs {w : World} {r rs rr : Nat} {t : RT} (h : IsRT w r rs rr t) : r ≠ rs := h.main.ne h.st (by decide)
theorem IsRT.r_rr {w : World} {r rs rr : Nat} {t : RT} (h : IsRT w r rs rr t) : r ≠ rr := h.main.ne h.rows (by decide)
theorem IsRT.rs_rr {w : World} {r rs rr : Nat} {t : RT} (h : IsRT w r rs rr t) : rs ≠ rr := h.st.ne h.rows (by decide)
theorem Row.at {w : World} {b i : Nat} {T : TypeId} {xs : List Row} {s : Row} (h : RowAt w b T (xs.flatMap Row.cells)) (hi : xs[i]? = some s) :
    w.cell? ⟨b, i * 7, none⟩ = some (.int .i64 s.kind) ∧ w.cell? ⟨b, i * 7 + 1, none⟩ = some (.int .i64 s.time) ∧ w.cell? ⟨b, i * 7 + 2, none⟩ = some (.int .i64 s.seq) ∧
    w.cell? ⟨b, i * 7 + 3, none⟩ = some (.int .i64 s.index) ∧ w.cell? ⟨b, i * 7 + 4, none⟩ = some (.int .i64 s.frm) ∧ w.cell? ⟨b, i * 7 + 5, none⟩ = some (.int .i64 s.to) ∧ w.cell? ⟨b, i * 7 + 6, none⟩ = some (.string s.body) := by
  have key : ∀ j, j < 7 → w.cell? ⟨b, i * 7 + j, none⟩ = s.cells[j]? := fun j hj => by
    rw [h.cell]
    exact flat_at Row.cells_length xs i j hj hi
  exact ⟨key 0 (by omega), key 1 (by omega), key 2 (by omega), key 3 (by omega), key 4 (by omega), key 5 (by omega), key 6 (by omega)⟩
def rowAt' (xs : List Row) (i : Nat) : Row := xs.getD i Row.zero
theorem rowAt'_some {xs : List Row} {i : Nat} (h : i < xs.length) : xs[i]? = some (rowAt' xs i) := by
  unfold rowAt'
  rw [List.getD_eq_getElem?_getD, List.getElem?_eq_getElem h]
  rfl

/-! ### put -/
def RT.waitF (t : RT) (i : Int) : Int := if i < 0 ∨ (t.st.length : Int) ≤ i then 111 else if t.st.getD i.toNat 0 = 0 then 0 else 112
def RT.putF (t : RT) (i : Int) (r : Row) (s : Int) : Int := if t.waitF i ≠ 0 then t.waitF i else if s = 1 ∧ r.ok = false then 90 else 0
def RT.putS (t : RT) (i : Int) (r : Row) (s : Int) : RT := if t.putF i r s = 0 then { t with st := t.st.set i.toNat s, rows := t.rows.set i.toNat r } else t
theorem IsRT.put0 {w w1 : World} {r rs rr : Nat} {t : RT} {n : Nat} {s : Int} {x : Row} (h : IsRT w r rs rr t) (hb : Below w.heap.size w w1) (hn : n < t.st.length) :
    IsRT (wset (w1.setCell ⟨rs, n, none⟩ (.int .i64 s)) rr (n * 7) x.cells) r rs rr { t with st := t.st.set n s, rows := t.rows.set n x } ∧ Turn (fun b => b = rs ∨ b = rr) w (wset (w1.setCell ⟨rs, n, none⟩ (.int .i64 s)) rr (n * 7) x.cells) := by
  have h1 := h.below hb
  have t1 : Turn (fun b => b = rs ∨ b = rr) w w1 := Turn.of_below hb _
  have t2 : Turn (fun b => b = rs ∨ b = rr) w1 (w1.setCell ⟨rs, n, none⟩ (.int .i64 s)) := (Turn.refl _ _).setCell (.inl (.inl rfl)) _
  have t3 : Turn (fun b => b = rs ∨ b = rr) w1 (wset (w1.setCell ⟨rs, n, none⟩ (.int .i64 s)) rr (n * 7) x.cells) := Turn.wset (S := fun b => b = rs ∨ b = rr) (.inl (.inr rfl)) _ _ t2
  have r2 := RowAt.wset x.cells (n * 7) (h1.rows.far (p := ⟨rs, n, none⟩) (Ne.symm h.rs_rr) (.int .i64 s))
  rw [show setRun (t.rows.flatMap Row.cells) (n * 7) x.cells = (t.rows.set n x).flatMap Row.cells from flat_set Row.cells_length _ _ _ (by rw [h.len]; exact hn)] at r2
  have r1 : RowAt (wset (w1.setCell ⟨rs, n, none⟩ (.int .i64 s)) rr (n * 7) x.cells) rs 3 ((t.st.map (Value.int .i64)).set n (.int .i64 s)) :=
    (h1.st.set n (.int .i64 s)).turn (Turn.wset (S := (· = rr)) (.inl rfl) _ _ (Turn.refl _ _)) (h.rs_rr)
  refine ⟨⟨?_, ?_, r2, by simpa using h.len, h.ord, by simpa using h.pos, by simpa using h.le⟩, t1.trans t3⟩
  · have := (h1.main.turn t3 (by have := h.r_rs; have := h.r_rr; omega))
    unfold RT.head at this ⊢
    simpa using this
  · exact r1.congr (by simp [List.map_set])
theorem IsRT.put {w w1 w' : World} {r rs rr : Nat} {t : RT} {n : Nat} {s : Int} {x : Row} (h : IsRT w r rs rr t) (hb : Below w.heap.size w w1) (hn : n < t.st.length) (e : w' = (wset (w1.setCell ⟨rs, n, none⟩ (.int .i64 s)) rr (n * 7) x.cells).drew) :
    IsRT w' r rs rr { t with st := t.st.set n s, rows := t.rows.set n x } ∧ Turn (fun b => b = rs ∨ b = rr) w w' := by
  have p := h.put0 (s := s) (x := x) hb hn
  rw [e]
  exact ⟨p.1.drew, p.2.drew⟩
theorem RT.waitF_zero {t : RT} {i : Int} (h : t.waitF i = 0) : ∃ n : Nat, i = n ∧ n < t.st.length ∧ t.st.getD n 0 = 0 := by
  unfold RT.waitF at h
  split at h
  · omega
  · rename_i hi
    split at h
    · rename_i hs
      exact ⟨i.toNat, by omega, by omega, hs⟩
    · omega
theorem RT.waitF_not {t : RT} {i : Int} (h : t.waitF i ≠ 0) : (t.waitF i = 111 ∧ (i < 0 ∨ (t.st.length : Int) ≤ i)) ∨ (t.waitF i = 112 ∧ ∃ n : Nat, i = n ∧ n < t.st.length ∧ t.st.getD n 0 ≠ 0) := by
  unfold RT.waitF at h ⊢
  split
  · rename_i hi; exact .inl ⟨rfl, hi⟩
  · rename_i hi
    rw [if_neg hi] at h
    split
    · rename_i hs; rw [if_pos hs] at h; omega
    · rename_i hs; exact .inr ⟨rfl, i.toNat, by omega, by omega, hs⟩
set_option maxRecDepth 100000 in
set_option maxHeartbeats 1600000 in
theorem put_any (r rs rr : Nat) (t : RT) (i : Int) (x : Row) (s : Int) (hs : s = 1 ∨ s = 2) (w : World) (h : IsRT w r rs rr t) :
    Calls Try.prog 36 #[.pointer (some ⟨r, 0, none⟩), .int .i64 i, .agg #[.int .i64 x.kind, .int .i64 x.time, .int .i64 x.seq, .int .i64 x.index, .int .i64 x.frm, .int .i64 x.to, .string x.body], .int .i64 s] w fun e w' =>
      e = .returned (.int .i64 (t.putF i x s)) ∧ IsRT w' r rs rr (t.putS i x s) ∧ Turn (fun b => b = rs ∨ b = rr) w w' := by
  have hu45 := Try.underlying45
  have hc := h.cells
  have le := h.le
  have lr := h.main.lt
  have lrs := h.st.lt
  have HH := Lib.hid h
  by_cases hw : t.waitF i = 0
  · obtain ⟨n, rfl, hn, hz⟩ := RT.waitF_zero hw
    have hcs := h.st_at hn
    rw [hz] at hcs
    by_cases hok : s = 1 ∧ x.ok = false
    · have e : t.putF n x s = 90 := by unfold RT.putF; rw [if_neg (by simpa using hw), if_pos hok]
      have e2 : t.putS n x s = t := by unfold RT.putS; rw [e, if_neg (by omega)]
      rw [e, e2]
      obtain ⟨rfl, hxo⟩ := hok
      have HX := Lib.hid hxo
      clear h hw e e2 hs hz hxo
      go_enter Try.func36, Try.ntmps36
      go_wp2_with (go_at_call 17; refine (refvalid_any x _).mono ?_; rw [HX.out]; rintro e w1 ⟨rfl, b1⟩)
      go_ret
      have B := ((Below.refl w.heap.size w).alloc (Nat.le_refl _) (.cells #[.int .i64 x.kind, .int .i64 x.time, .int .i64 x.seq, .int .i64 x.index, .int .i64 x.frm, .int .i64 x.to, .string x.body] 45)).trans (b1.mono (by simp))
      exact ⟨rfl, HH.out.below B, Turn.of_below B _⟩
    · have e : t.putF n x s = 0 := by unfold RT.putF; rw [if_neg (by simpa using hw), if_neg hok]
      have e2 : t.putS n x s = { t with st := t.st.set n s, rows := t.rows.set n x } := by unfold RT.putS; rw [if_pos e]; rfl
      rw [e, e2]
      have hrl : n < t.rows.length := by rw [h.len]; exact hn
      obtain ⟨x0, x1, x2, x3, x4, x5, x6⟩ := Row.at h.rows (rowAt'_some hrl)
      have hf1 := h.st.frozen
      have hf2 := h.rows.frozen
      have lrr := h.rows.lt
      have ne1 := h.rs_rr
      have ne2 := h.r_rs
      have ne3 := h.r_rr
      have ne4 : rs ≠ w.heap.size := by omega
      have ne5 : rr ≠ w.heap.size := by omega
      have E2 := Lib.hid e2
      clear h hw e e2 hz
      rcases hs with rfl | rfl
      · have hxo : x.ok = true := by
          cases hx : x.ok
          · exact absurd ⟨rfl, hx⟩ hok
          · rfl
        have HX := Lib.hid hxo
        clear hok hxo
        go_enter Try.func36, Try.ntmps36
        go_wp2_with (go_at_call 17; refine (refvalid_any x _).mono ?_; rw [HX.out]; rintro e w1 ⟨rfl, b1⟩; have B := ((Below.refl w.heap.size w).alloc (Nat.le_refl _) (.cells #[.int .i64 x.kind, .int .i64 x.time, .int .i64 x.seq, .int .i64 x.index, .int .i64 x.frm, .int .i64 x.to, .string x.body] 45)).trans (b1.mono (by simp)); have i1 := HH.out.below B; have hc1 := i1.cells; have hcs1 := i1.st_at hn; obtain ⟨y0, y1, y2, y3, y4, y5, y6⟩ := Row.at i1.rows (rowAt'_some hrl); have hg1 := i1.st.frozen; have hg2 := i1.rows.frozen; have hbx := (((RowAt.new w 45 [.int .i64 x.kind, .int .i64 x.time, .int .i64 x.seq, .int .i64 x.index, .int .i64 x.frm, .int .i64 x.to, .string x.body])).below b1).cell)
        have BB := Lib.hid B
        clear b1 i1 B
        go_region
        all_goals go_wp2
        all_goals go_ret
        all_goals exact ⟨rfl, HH.out.put BB.out hn rfl⟩
      · clear hok
        go_enter Try.func36, Try.ntmps36
        go_wp2
        go_region
        all_goals go_wp2
        all_goals go_ret
        all_goals have p := HH.out.put0 (s := 2) (x := x) (Below.refl _ _) hn
        all_goals exact ⟨rfl, (p.1.turn (S := fun _ => False) ((Turn.refl _ _).alloc _) id id id).drew, (p.2.alloc _).drew⟩
  · have e : t.putF i x s = t.waitF i := by unfold RT.putF; rw [if_pos hw]
    have e2 : t.putS i x s = t := by unfold RT.putS; rw [e, if_neg hw]
    rw [e, e2]
    clear e e2 hs
    have B := (Below.refl w.heap.size w).alloc (Nat.le_refl _) (.cells #[.int .i64 x.kind, .int .i64 x.time, .int .i64 x.seq, .int .i64 x.index, .int .i64 x.frm, .int .i64 x.to, .string x.body] 45)
    have BB := Lib.hid B
    rcases RT.waitF_not hw with ⟨e, h1 | h1⟩ | ⟨e, n, rfl, hn, hz⟩
    · rw [e]
      clear h hw e B
      go_enter Try.func36, Try.ntmps36
      go_wp2
      go_ret
      exact ⟨rfl, HH.out.below BB.out, Turn.of_below BB.out _⟩
    · have h0 : 0 ≤ i := by omega
      rw [e]
      clear h hw e B
      go_enter Try.func36, Try.ntmps36
      go_wp2
      go_ret
      exact ⟨rfl, HH.out.below BB.out, Turn.of_below BB.out _⟩
    · have hcs := h.st_at hn
      rw [e]
      have hz1 : (t.st.getD n 0 != 0) = true := by simpa using hz
      generalize t.st.getD n 0 = q at hcs hz1
      clear h hw e B hz
      go_enter Try.func36, Try.ntmps36
      go_wp2
      go_ret
      exact ⟨rfl, HH.out.below BB.out, Turn.of_below BB.out _⟩

/-! ### Feed, Finish, New -/
theorem rfeed_any (r rs rr : Nat) (t : RT) (i : Int) (x : Row) (w : World) (h : IsRT w r rs rr t) :
    Calls Try.prog 28 #[.pointer (some ⟨r, 0, none⟩), .int .i64 i, .agg #[.int .i64 x.kind, .int .i64 x.time, .int .i64 x.seq, .int .i64 x.index, .int .i64 x.frm, .int .i64 x.to, .string x.body]] w fun e w' =>
      e = .returned (.int .i64 (t.putF i x 1)) ∧ IsRT w' r rs rr (t.putS i x 1) ∧ Turn (fun b => b = rs ∨ b = rr) w w' := by
  have hu45 := Try.underlying45
  have HH := Lib.hid h
  clear h
  go_enter Try.func28, Try.ntmps28
  go_wp2_with fail
  have B := (Below.refl w.heap.size w).alloc (Nat.le_refl _) (.cells #[.int .i64 x.kind, .int .i64 x.time, .int .i64 x.seq, .int .i64 x.index, .int .i64 x.frm, .int .i64 x.to, .string x.body] 45)
  have BB := Lib.hid B
  clear B
  refine (put_any r rs rr t i x 1 (.inl rfl) _ (HH.out.below BB.out)).mono ?_
  rintro e w1 ⟨rfl, i1, t1⟩
  have I1 := Lib.hid i1
  have T1 := Lib.hid ((Turn.of_below BB.out _).trans t1)
  clear i1 t1
  go_wp2
  go_ret
  exact ⟨rfl, I1.out, T1.out⟩
theorem rfinish_any (r rs rr : Nat) (t : RT) (i : Int) (w : World) (h : IsRT w r rs rr t) :
    Calls Try.prog 29 #[.pointer (some ⟨r, 0, none⟩), .int .i64 i] w fun e w' =>
      e = .returned (.int .i64 (t.putF i Row.zero 2)) ∧ IsRT w' r rs rr (t.putS i Row.zero 2) ∧ Turn (fun b => b = rs ∨ b = rr) w w' := by
  have hu45 := Try.underlying45
  have HH := Lib.hid h
  clear h
  go_enter Try.func29, Try.ntmps29
  go_wp2_with fail
  refine (put_any r rs rr t i Row.zero 2 (.inr rfl) _ HH.out).mono ?_
  rintro e w1 ⟨rfl, i1, t1⟩
  have I1 := Lib.hid i1
  have T1 := Lib.hid t1
  clear i1 t1
  go_wp2
  go_ret
  exact ⟨rfl, I1.out, T1.out⟩
theorem info45 : (Try.prog.info? 45).map (fun i => (i.zero, i.size, i.bytes)) = some (some (.agg Row.zero.cells.toArray), 7, 64) := by kernel_rfl
def RT.new (o : Int) (k : Nat) : RT := ⟨o, List.replicate k 0, List.replicate k Row.zero⟩
def intCell (n : Int) : List Value := [.int .i64 n]
theorem intCells (xs : List Int) : xs.flatMap intCell = xs.map (Value.int .i64) := by
  induction xs with
  | nil => rfl
  | cons x xs ih => rw [List.flatMap_cons, ih]; rfl
theorem rnew_no (o k : Int) (w : World) (h : newErr o k ≠ 0) : Calls Try.prog 14 #[.int .i64 o, .int .i64 k] w fun e w' => e = .returned (.tuple #[.pointer none, .int .i64 (newErr o k)]) ∧ w = w' := by
  by_cases ho : o = 1 ∨ o = 2
  · have hk : k < 1 ∨ 64 < k := by
      unfold newErr at h
      rw [if_pos ho] at h
      by_cases hk : 1 ≤ k ∧ k ≤ 64
      · rw [if_pos hk] at h; omega
      · omega
    have e : newErr o k = 110 := by unfold newErr; rw [if_pos ho, if_neg (by omega)]
    rw [e]
    have h1 : 1 ≤ o := by omega
    have h2 : o ≤ 2 := by omega
    clear e h ho
    by_cases h1 : k < 1
    all_goals
      go_enter Try.func14, Try.ntmps14
      go_wp2
      go_ret2
      exact ⟨rfl, rfl⟩
  · have e : newErr o k = 91 := by unfold newErr; rw [if_neg ho]
    rw [e]
    have hb : o < 1 ∨ (1 ≤ o ∧ 2 < o) := by omega
    clear e h ho
    rcases hb with hb | ⟨hb, hb2⟩
    all_goals
      go_enter Try.func14, Try.ntmps14
      go_wp2
      go_ret2
      exact ⟨rfl, rfl⟩
set_option maxHeartbeats 800000 in
theorem rnew_yes (o : Int) (k : Nat) (w : World) (ho : o = 1 ∨ o = 2) (h1 : 1 ≤ k) (h2 : k ≤ 64) : Calls Try.prog 14 #[.int .i64 o, .int .i64 k] w fun e w' =>
    ∃ r rs rr, e = .returned (.tuple #[.pointer (some ⟨r, 0, none⟩), .int .i64 0]) ∧ IsRT w' r rs rr (RT.new o k) ∧ Below w.heap.size w w' ∧ w.heap.size ≤ r ∧ w.heap.size ≤ rs ∧ w.heap.size ≤ rr := by
  have m1 := run_make_flat (P := Try.prog) intCell 0 32 3 _ 8 Try.underlying32 info3 rfl .i64 .i64 k (by omega) (by omega)
  have m2 := run_make_flat (P := Try.prog) Row.cells Row.zero 51 45 _ 64 Try.underlying51 info45 rfl .i64 .i64 k (by omega) (by omega)
  generalize hX : ((List.replicate k 0).flatMap intCell).toArray = X at m1
  generalize hY : ((List.replicate k Row.zero).flatMap Row.cells).toArray = Y at m2
  have HX := Lib.hid hX
  have HY := Lib.hid hY
  have HO := Lib.hid ho
  have o1 : 1 ≤ o := by omega
  have o2 : o ≤ 2 := by omega
  clear ho hX hY
  go_enter Try.func14, Try.ntmps14
  go_wp2_with fail
  go_region
  all_goals go_wp2
  all_goals go_ret2
  all_goals rw [← HX.out, ← HY.out]
  · have r1 : RowAt _ w.heap.size 3 ((List.replicate k 0).flatMap intCell) := RowAt.new' w w.heap.size 3 _ rfl
    have r2 := RowAt.new' (w.alloc (.cells ((List.replicate k 0).flatMap intCell).toArray 3)) (w.heap.size + 1) 45 ((List.replicate k Row.zero).flatMap Row.cells) (by simp)
    have r3 := RowAt.new' ((w.alloc (.cells ((List.replicate k 0).flatMap intCell).toArray 3)).alloc (.cells ((List.replicate k Row.zero).flatMap Row.cells).toArray 45)) (w.heap.size + 1 + 1) 70 ((RT.new o k).head w.heap.size (w.heap.size + 1)) (by simp)
    refine ⟨w.heap.size + 1 + 1, w.heap.size, w.heap.size + 1, rfl, ⟨?_, ?_, r2.alloc _, by simp [RT.new], HO.out, by simpa [RT.new] using h1, by simpa [RT.new] using h2⟩, ?_, by omega, by omega, by omega⟩
    · simpa [RT.head, RT.new] using r3.drew
    · exact ((r1.alloc _).alloc _).congr (by rw [intCells]; rfl)
    · exact ((((Below.refl _ _).alloc (Nat.le_refl _) _).alloc (by simp) _).alloc (by simp; omega) _).drew
  · have r1 : RowAt _ w.heap.size 45 ((List.replicate k Row.zero).flatMap Row.cells) := RowAt.new' w w.heap.size 45 _ rfl
    have r2 := RowAt.new' (w.alloc (.cells ((List.replicate k Row.zero).flatMap Row.cells).toArray 45)) (w.heap.size + 1) 3 ((List.replicate k 0).flatMap intCell) (by simp)
    have r3 := RowAt.new' ((w.alloc (.cells ((List.replicate k Row.zero).flatMap Row.cells).toArray 45)).alloc (.cells ((List.replicate k 0).flatMap intCell).toArray 3)) (w.heap.size + 1 + 1) 70 ((RT.new o k).head (w.heap.size + 1) w.heap.size) (by simp)
    refine ⟨w.heap.size + 1 + 1, w.heap.size + 1, w.heap.size, rfl, ⟨?_, ?_, (r1.alloc _).alloc _, by simp [RT.new], HO.out, by simpa [RT.new] using h1, by simpa [RT.new] using h2⟩, ?_, by omega, by omega, by omega⟩
    · simpa [RT.head, RT.new] using r3.drew
    · exact (r2.alloc _).congr (by rw [intCells]; rfl)
    · exact ((((Below.refl _ _).alloc (Nat.le_refl _) _).alloc (by simp) _).alloc (by simp; omega) _).drew

/-! ### the sources that wait, by the document -/
def waitsR (st : List Int) (k : Nat) : List Nat := (List.range k).filter fun i => st.getD i 0 == 0
theorem waitsR_succ (st : List Int) (k : Nat) : waitsR st (k + 1) = if st.getD k 0 = 0 then waitsR st k ++ [k] else waitsR st k := by
  unfold waitsR
  rw [List.range_succ, List.filter_append]
  by_cases h : st.getD k 0 = 0
  · rw [if_pos h]; simp only [List.filter_cons, h, List.filter_nil]; rfl
  · rw [if_neg h]
    have : (st.getD k 0 == 0) = false := by simpa using h
    simp only [List.filter_cons, this, List.filter_nil]
    simp
theorem waitsR_length (st : List Int) (k : Nat) : (waitsR st k).length ≤ k := by
  unfold waitsR
  have := List.length_filter_le (fun i => st.getD i 0 == 0) (List.range k)
  simpa using this
set_option maxRecDepth 100000 in
set_option maxHeartbeats 1600000 in
theorem rwaiting_any (r rs rr : Nat) (t : RT) (w : World) (h : IsRT w r rs rr t) :
    Calls Try.prog 31 #[.pointer (some ⟨r, 0, none⟩)] w fun e w' => ∃ v, e = .returned v ∧ Own w' w.heap.size 3 1 natCell v (waitsR t.st t.st.length) ∧ Below w.heap.size w w' := by
  have le := h.le
  have hc := h.cells
  have h0 := Lib.hid h
  clear h
  obtain ⟨i0, hi, hz0, hz1, hz2⟩ := info_parts info3
  go_enter Try.func31, Try.ntmps31
  go_wp2
  go_loopw [11, 3] (fun i v wr => ∃ k : Nat, i = .int .i64 k ∧ k ≤ t.st.length ∧ Hid (Own wr w.heap.size 3 1 natCell v (waitsR t.st k)) ∧ Hid (Below w.heap.size w wr)) (fun i _ _ => t.st.length - (intOf i).toNat)
  case atStart => exact ⟨0, rfl, by omega, Own.nil _ _ _ _ _, Below.refl _ _⟩
  case round =>
    obtain ⟨k, rfl, hk, HO, HB⟩ := hrel
    have hsz := HB.out.size
    clear hc
    by_cases hlt : k < t.st.length
    · have x0 := (h0.out.below HB.out).st_at hlt
      obtain ⟨s, hs⟩ : ∃ s, s = t.st.getD k 0 := ⟨_, rfl⟩
      rw [← hs] at x0
      have HSt := Lib.hid hs
      clear hs
      by_cases e0 : s = 0
      · subst e0
        have hown := HO.out
        have hlen := waitsR_length t.st k
        go_wp2_with (at_builtin; refine wpList_append_own _ rfl _ _ 32 rfl w.heap.size 3 i0 (.int .i64 0) 1 8 Try.underlying32 hi hz0 hz1 hz2 rfl (by decide) _ _ _ rfl (hown.alloc _) ⟨wr.heap.size, 0, none⟩ 1 1 [.int .i64 (k : Int)] rfl rfl ?c1 ?c2 ?c3 ?c4 ?c5 ?_)
        case c1 =>
          intro j u hj
          match j, hj with
          | 0, hj => simp at hj; subst hj; simp [Addr.add]
        case c2 => intro u hu; simp at hu; subst hu; rfl
        case c3 => unfold maxLen; omega
        case c4 => omega
        case c5 => simp; omega
        · intro v' w1 hown' hgrow _
          have o1 : Own w1 w.heap.size 3 1 natCell v' (waitsR t.st (k + 1)) := by
            rw [waitsR_succ, if_pos (by rw [← HSt.out])]
            exact Own.snoc hown'
          have b1 : Below w.heap.size w w1 := (HB.out.alloc hsz _).grown hgrow (by simp; omega) (fun k hk => (Own.base hown k hk).1)
          have O1 := Lib.hid o1
          have B1 := Lib.hid b1
          clear hown' hgrow o1 b1 hown x0
          go_wp2
          go_roundw
          case rel => exact ⟨k + 1, by go_num, by omega, O1.out, B1.out⟩
          case measure => simp [intOf]; omega
      · go_wp2
        go_roundw
        case rel => exact ⟨k + 1, by go_num, by omega, by rw [waitsR_succ, if_neg (by rw [← HSt.out]; exact e0)]; exact HO.out, HB.out⟩
        case measure => simp [intOf]; omega
    · go_wp2
      go_ret
      exact ⟨_, rfl, by rw [show t.st.length = k by omega]; exact HO.out, HB.out⟩
end Go.Proofs.Ytgcfpepaapdjoaa
