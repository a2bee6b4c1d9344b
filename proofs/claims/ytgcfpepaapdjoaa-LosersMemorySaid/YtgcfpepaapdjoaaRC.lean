/- The document's sorting of rows, walked. -/
import Derived.Test.YtgcfpepaapdjoaaRA
import Derived.Test.YtgcfpepaapdjoaaMD
import Derived.Test.YtgcfpepaapdjoaaMk
import Derived.Test.YtgcfpepaapdjoaaOp2
import Derived.Test.YtgcfpepaapdjoaaQ
namespace Go.Proofs.Ytgcfpepaapdjoaa
set_option linter.unusedVariables false
set_option linter.unusedSimpArgs false
open Go.RowKit

theorem SliceRd.drew {α : Type} {w : World} {A : Option Addr} {n : Nat} {f : α → List Value} {xs : List α} (h : SliceRd w A n f xs) : SliceRd w.drew A n f xs := h
theorem SliceRd.take {α : Type} {w : World} {A : Option Addr} {n : Nat} {f : α → List Value} {xs : List α} (h : SliceRd w A n f xs) (k : Nat) : SliceRd w A n f (xs.take k) := by
  rcases h with rfl | ⟨b, off, rfl, hb, hc⟩
  · exact .inl (List.take_nil ..)
  · refine .inr ⟨b, off, rfl, hb, fun i x hx j hj => hc i x ?_ j hj⟩
    rw [List.getElem?_take] at hx
    split at hx
    · exact hx
    · cases hx
theorem SliceRd.drop {α : Type} {w : World} {b off : Nat} {n : Nat} {f : α → List Value} {xs : List α} (h : SliceRd w (some ⟨b, off, none⟩) n f xs) (k : Nat) : SliceRd w (some ⟨b, off + k * n, none⟩) n f (xs.drop k) := by
  rcases h with rfl | ⟨b', off', e, hb, hc⟩
  · exact .inl (List.drop_nil ..)
  · injection e with e
    injection e with e1 e2
    subst e1 e2
    refine .inr ⟨b, off + k * n, rfl, hb, fun i x hx j hj => ?_⟩
    rw [List.getElem?_drop] at hx
    have := hc (k + i) x hx j hj
    rw [Nat.add_mul] at this
    rw [show off + k * n + i * n + j = off + (k * n + i * n) + j by omega]
    exact this
theorem Own.rd {α : Type} {w : World} {base : Nat} {e : TypeId} {size : Nat} {f : α → List Value} {A : Option Addr} {n cap : Nat} {xs : List α} (h : Own w base e size f (.slice A n cap) xs) (hf : ∀ x, (f x).length = size) : SliceRd w A size f xs := by
  rcases h.cases with ⟨e, rfl⟩ | ⟨g, cap', rest, e, -, -, -, hr⟩
  · exact .inl rfl
  · injection e with e1 e2 e3
    subst e1
    refine .inr ⟨g, 0, rfl, hr.lt, fun i x hx j hj => ?_⟩
    have hi := (List.getElem?_eq_some_iff.1 hx).1
    have hend := flat_end (size := size) hi
    rw [Nat.zero_add, hr.cell, List.getElem?_append_left (by rw [flat_length hf]; omega)]
    exact flat_at hf xs i j hj hx
theorem infoR45 : ∃ i, Try.prog.info? 45 = some i ∧ i.zero = some (.agg Row.zero.cells.toArray) ∧ i.size = 7 ∧ i.bytes = 64 := info_of (by kernel_rfl)
theorem own_none45 (w : World) : Own (w.alloc (.cells #[] 45)) w.heap.size 45 7 Row.cells (.slice (some ⟨w.heap.size, 0, none⟩) 0 0) [] :=
  RowAt.own (RowAt.new w 45 []) (Nat.le_refl _) rfl (by decide)
theorem plainR_any (r : Row) (w : World) : Calls Try.prog 18 #[.agg r.cells.toArray] w fun e w' => e = .returned (.agg r.cells.toArray) ∧ Below w.heap.size w w' := by
  obtain ⟨a, b, c, d, e, f, s⟩ := r
  simp only [Row.cells]
  go_enter Try.func18, Try.ntmps18
  go_wp2_with fail
  exact bodyPost_ret (results_c (T := 45) Try.results18 _ rfl (RowAt.new' _ (w.heap.size + 1) 45 [.int .i64 a, .int .i64 b, .int .i64 c, .int .i64 d, .int .i64 e, .int .i64 f, .string s] (by simp)) Try.underlying45 rfl (by kernel_rfl)) rfl ⟨rfl, ((Below.refl _ _).alloc (Nat.le_refl _) _).alloc (by simp) _⟩
theorem plain7 (x0 x1 x2 x3 x4 x5 : Int) (x6 : ByteArray) (w : World) : Calls Try.prog 18 #[.agg #[.int .i64 x0, .int .i64 x1, .int .i64 x2, .int .i64 x3, .int .i64 x4, .int .i64 x5, .string x6]] w fun e w' => e = .returned (.agg #[.int .i64 x0, .int .i64 x1, .int .i64 x2, .int .i64 x3, .int .i64 x4, .int .i64 x5, .string x6]) ∧ Below w.heap.size w w' :=
  plainR_any ⟨x0, x1, x2, x3, x4, x5, x6⟩ w
theorem eqB45 (d : Nat) (w : World) (x0 y0 : Int) (x1 y1 : Int) (x2 y2 : Int) (x3 y3 : Int) (x4 y4 : Int) (x5 y5 : Int) (x6 y6 : ByteArray) :
    (Op.equalIn (d + 2) 45 (.agg #[.int .i64 x0, .int .i64 x1, .int .i64 x2, .int .i64 x3, .int .i64 x4, .int .i64 x5, .string x6]) (.agg #[.int .i64 y0, .int .i64 y1, .int .i64 y2, .int .i64 y3, .int .i64 y4, .int .i64 y5, .string y6])).run Try.prog w = .ok (Row.eqb ⟨x0, x1, x2, x3, x4, x5, x6⟩ ⟨y0, y1, y2, y3, y4, y5, y6⟩) w := by
  refine eqStruct_of Try.underlying45 (by kernel_rfl) ?_
  refine eqField_cons (by rfl) (by go_simp; rfl) (by go_simp; rfl) (by go_simp) ?_
  refine eqField_cons (by rfl) (by go_simp; rfl) (by go_simp; rfl) (by go_simp) ?_
  refine eqField_cons (by rfl) (by go_simp; rfl) (by go_simp; rfl) (by go_simp) ?_
  refine eqField_cons (by rfl) (by go_simp; rfl) (by go_simp; rfl) (by go_simp) ?_
  refine eqField_cons (by rfl) (by go_simp; rfl) (by go_simp; rfl) (by go_simp) ?_
  refine eqField_cons (by rfl) (by go_simp; rfl) (by go_simp; rfl) (by go_simp) ?_
  exact eqField_last (by rfl) (by go_simp; rfl) (by go_simp; rfl) (by go_simp)
attribute [local go_sem high] eqB45
set_option maxRecDepth 100000 in
set_option maxHeartbeats 8000000 in
/-- The two lists are alike, row by row. -/
theorem samerows_any (rows : List Row) (n : Nat) (A A' : Option Addr) (c c' : Nat) (w : World) (hn : rows.length = n) (hm : n ≤ 4611686018427387904) (h : SliceRd w A 7 Row.cells rows) (h' : SliceRd w A' 7 Row.cells rows) :
    Calls Try.prog 21 #[.slice A n c, .slice A' n c'] w fun e w' => e = .returned (.bool true) ∧ Below w.heap.size w w' := by
  have HN := Lib.hid hn
  have H := Lib.hid h
  have H' := Lib.hid h'
  clear hn h h'
  go_enter Try.func21, Try.ntmps21
  go_wp2_with fail
  go_loopw [14] (fun ix wr => ∃ i : Nat, i ≤ n ∧ ix = .int .i64 i ∧ Hid (Below w.heap.size w wr)) (fun ix _ => n - (intOf ix).toNat)
  case atStart => exact ⟨0, by omega, rfl, Lib.hid (Below.refl _ _)⟩
  case round =>
    obtain ⟨i, hi, rfl, HB⟩ := hrel
    by_cases hlt : i < n
    · obtain ⟨x, hx⟩ : ∃ x, rows[i]? = some x := ⟨_, List.getElem?_eq_getElem (by rw [HN.out]; exact hlt)⟩
      obtain ⟨x0, x1, x2, x3, x4, x5, x6⟩ := x
      have hba := (Below.refl wr.heap.size wr).alloc (Nat.le_refl _) (.cells #[.int .i64 x0, .int .i64 x1, .int .i64 x2, .int .i64 x3, .int .i64 x4, .int .i64 x5, .string x6] 29)
      obtain ⟨b, off, rfl, hb, hc⟩ := (H.out.below HB.out).at hx
      have HA' := Lib.hid ((H'.out.below HB.out).below hba)
      obtain ⟨b', off', rfl, hb', hc'⟩ := HA'.out.at hx
      have RX := Lib.hid (RowAt.new wr 29 [.int .i64 x0, .int .i64 x1, .int .i64 x2, .int .i64 x3, .int .i64 x4, .int .i64 x5, .string x6])
      have k0 := hc 0 (by omega)
      have q0 := hc' 0 (by omega)
      have z0 := RX.out.cell 0
      have k1 := hc 1 (by omega)
      have q1 := hc' 1 (by omega)
      have z1 := RX.out.cell 1
      have k2 := hc 2 (by omega)
      have q2 := hc' 2 (by omega)
      have z2 := RX.out.cell 2
      have k3 := hc 3 (by omega)
      have q3 := hc' 3 (by omega)
      have z3 := RX.out.cell 3
      have k4 := hc 4 (by omega)
      have q4 := hc' 4 (by omega)
      have z4 := RX.out.cell 4
      have k5 := hc 5 (by omega)
      have q5 := hc' 5 (by omega)
      have z5 := RX.out.cell 5
      have k6 := hc 6 (by omega)
      have q6 := hc' 6 (by omega)
      have z6 := RX.out.cell 6
      simp only [Row.cells, List.getElem?_cons_zero, List.getElem?_cons_succ, Nat.add_zero] at k0 q0 z0 k1 q1 z1 k2 q2 z2 k3 q3 z3 k4 q4 z4 k5 q5 z5 k6 q6 z6
      have HX := Lib.hid hx
      have HBA := Lib.hid (HB.out.trans (hba.mono HB.out.size))
      have hi0 : (0 : Int) ≤ (i : Int) := by omega
      have hi1 : (i : Int) < (n : Int) := by omega
      have hself := Row.eqb_self ⟨x0, x1, x2, x3, x4, x5, x6⟩
      clear hc hc' hx hba
      go_wp2_with fail
      go_region_held3 (fun w' => w'.cell? ⟨b', off' + i * 7, none⟩ = some (Value.int .i64 x0) ∧ w'.cell? ⟨b', off' + i * 7 + 1, none⟩ = some (Value.int .i64 x1) ∧ w'.cell? ⟨b', off' + i * 7 + 2, none⟩ = some (Value.int .i64 x2) ∧ w'.cell? ⟨b', off' + i * 7 + 3, none⟩ = some (Value.int .i64 x3) ∧ w'.cell? ⟨b', off' + i * 7 + 4, none⟩ = some (Value.int .i64 x4) ∧ w'.cell? ⟨b', off' + i * 7 + 5, none⟩ = some (Value.int .i64 x5) ∧ w'.cell? ⟨b', off' + i * 7 + 6, none⟩ = some (Value.string x6) ∧ w'.cell? ⟨wr.heap.size, 0, none⟩ = some (Value.int .i64 x0) ∧ w'.cell? ⟨wr.heap.size, 1, none⟩ = some (Value.int .i64 x1) ∧ w'.cell? ⟨wr.heap.size, 2, none⟩ = some (Value.int .i64 x2) ∧ w'.cell? ⟨wr.heap.size, 3, none⟩ = some (Value.int .i64 x3) ∧ w'.cell? ⟨wr.heap.size, 4, none⟩ = some (Value.int .i64 x4) ∧ w'.cell? ⟨wr.heap.size, 5, none⟩ = some (Value.int .i64 x5) ∧ w'.cell? ⟨wr.heap.size, 6, none⟩ = some (Value.string x6))
        (first | exact ⟨q0, q1, q2, q3, q4, q5, q6, z0, z1, z2, z3, z4, z5, z6⟩ | exact ⟨(b5.cell (by exact hb')).trans q0, (b5.cell (by exact hb')).trans q1, (b5.cell (by exact hb')).trans q2, (b5.cell (by exact hb')).trans q3, (b5.cell (by exact hb')).trans q4, (b5.cell (by exact hb')).trans q5, (b5.cell (by exact hb')).trans q6, (b5.cell (by exact RX.out.lt)).trans z0, (b5.cell (by exact RX.out.lt)).trans z1, (b5.cell (by exact RX.out.lt)).trans z2, (b5.cell (by exact RX.out.lt)).trans z3, (b5.cell (by exact RX.out.lt)).trans z4, (b5.cell (by exact RX.out.lt)).trans z5, (b5.cell (by exact RX.out.lt)).trans z6⟩)
        (first | (go_at_call 18; refine (plain7 x0 x1 x2 x3 x4 x5 x6 _).mono ?_; rintro e w5 ⟨rfl, b5⟩; have B5 := Lib.hid (HBA.out.drew.trans (b5.mono (by have := HBA.out.size; exact this)))))
      all_goals go_wp2_with fail
      all_goals exact ⟨⟨i + 1, by omega, rfl, B5⟩, by show n - ((i : Int) + 1).toNat < n - (i : Int).toNat; omega⟩
    · obtain rfl : n = i := by omega
      go_wp2_with fail
      go_ret
      exact ⟨rfl, HB.out⟩
theorem before7 (o : Int) (ho : o = 1 ∨ o = 2) (x0 x1 x2 x3 x4 x5 : Int) (x6 : ByteArray) (y0 y1 y2 y3 y4 y5 : Int) (y6 : ByteArray) (w : World) : Calls Try.prog 22 #[.int .i64 o, .agg #[.int .i64 x0, .int .i64 x1, .int .i64 x2, .int .i64 x3, .int .i64 x4, .int .i64 x5, .string x6], .agg #[.int .i64 y0, .int .i64 y1, .int .i64 y2, .int .i64 y3, .int .i64 y4, .int .i64 y5, .string y6]] w
    fun e w' => e = .returned (.bool (before o ⟨x0, x1, x2, x3, x4, x5, x6⟩ ⟨y0, y1, y2, y3, y4, y5, y6⟩)) ∧ Below w.heap.size w w' := before_any o ho ⟨x0, x1, x2, x3, x4, x5, x6⟩ ⟨y0, y1, y2, y3, y4, y5, y6⟩ w
set_option maxRecDepth 100000 in
set_option maxHeartbeats 8000000 in
theorem refsorted_any (o : Int) (ho : o = 1 ∨ o = 2) : ∀ (m : Nat) (A : Option Addr) (c : Nat) (rows : List Row) (w : World), rows.length = m → m < 16777216 → SliceRd w A 7 Row.cells rows → (A = none → c = 0) → m ≤ c → c ≤ maxLen →
    Calls Try.prog 33 #[.int .i64 o, .slice A m c] w fun e w' => ∃ A' c' out, e = .returned (.slice A' m c') ∧ IsSorted o rows out ∧ Own w' w.heap.size 45 7 Row.cells (.slice A' m c') (out.map Nm.row) ∧ Below w.heap.size w w' := by
  intro m
  induction m using Nat.strongRecOn with
  | ind m ih =>
    intro A c rows w hm hml h hz hc hcm
    have HM := Lib.hid hm
    have HR := Lib.hid h
    have HZ := Lib.hid hz
    have IH := Lib.hid ih
    clear hm h hz ih
    by_cases h2 : m < 2
    · have hrd := SliceRd.read (cap := c) (HR.out.below ((Below.refl w.heap.size w).alloc (Nat.le_refl _) (.cells #[] 45))) Row.cells_length HZ.out
      rw [HM.out] at hrd
      have HRD := Lib.hid hrd
      have HO := Lib.hid (own_none45 w)
      have h3 : (m : Int) < 2 := by omega
      have HSL := Lib.hid (show ([] : List Row).length + rows.length ≤ maxLen ∧ (([] : List Row).length + rows.length) * 64 ≤ 140737488355328 by rw [HM.out]; unfold maxLen; simp; omega)
      clear hrd
      go_enter Try.func33, Try.ntmps33
      go_wp2_with (at_builtin; go_loud (refine cat_list Row.cells 45 51 51 45 (.agg Row.zero.cells.toArray) 7 64 Try.underlying51 Try.underlying51 (by kernel_rfl) rfl (by decide) Row.cells_length row_one _ _ (by rfl) (by rfl) w.heap.size (.slice (some ⟨w.heap.size, 0, none⟩) 0 0) [] rows (by rfl) HO.out (.slice A m c) (by rfl) HRD.out HSL.out.1 HSL.out.2 (by simp) ?_))
      intro v2 w2 o2 g2 l2
      obtain ⟨A2, c2, rfl⟩ := own_forms o2
      have hb : Below w.heap.size w w2 := (((Below.refl w.heap.size w).alloc (Nat.le_refl _) (.cells #[] 45)).grown g2 (by simp) fun q hq => by
        have : w.heap.size = q := by simpa [Value.ownBlock] using hq
        omega)
      have HB := Lib.hid hb
      have O2 := Lib.hid o2
      rw [HM.out] at O2 ⊢
      clear o2 g2 l2 hb
      go_wp2_with fail
      go_ret
      exact ⟨A2, c2, nums rows, rfl, sorted_small (by rw [HM.out]; exact h2), by rw [nums_rows]; exact O2.out, HB.out⟩
    · obtain ⟨b, off, rfl, hb, -⟩ : ∃ b off, A = some ⟨b, off, none⟩ ∧ b < w.heap.size ∧ True := by
        rcases HR.out with e | ⟨b, off, e, hb, -⟩
        · rw [e] at HM; have := HM.out; simp at this; omega
        · exact ⟨b, off, e, hb, trivial⟩
      obtain ⟨k, hk⟩ : ∃ k, k = m / 2 := ⟨_, rfl⟩
      have h3 : ¬ (m : Int) < 2 := by omega
      have hk1 : (m : Int) / 2 = (k : Int) := by omega
      have hk2 : 1 ≤ k ∧ k < m := by omega
      obtain ⟨hk2, hk3⟩ := hk2
      clear hk HZ
      go_enter Try.func33, Try.ntmps33
      go_wp2_with fail
      refine (IH.out k (by omega) _ c (rows.take k) w (by rw [List.length_take, HM.out]; omega) (by omega) (HR.out.take k) (fun h => by cases h) (by omega) hcm).mono ?_
      rintro e w1 ⟨A1, c1, oa, rfl, s1, o1, b1⟩
      have SA := Lib.hid s1
      have OA1 := Lib.hid o1
      have B1 := Lib.hid b1
      clear s1 o1 b1
      go_wp2_with fail
      refine (IH.out (m - k) (by omega) _ (c - k) (rows.drop k) w1 (by rw [List.length_drop, HM.out]) (by omega) ((HR.out.below B1.out).drop k) (fun h => by cases h) (by omega) (by omega)).mono ?_
      rintro e w2 ⟨A2, c2, ob, rfl, s2, o2, b2⟩
      have SB := Lib.hid s2
      have OA2 := Lib.hid (Own.below OA1.out b2)
      have OB2 := Lib.hid o2
      have B2 := Lib.hid (B1.out.trans (b2.mono B1.out.size))
      obtain ⟨kb, hkb⟩ : ∃ kb, m - k = kb := ⟨_, rfl⟩
      have hkm : m = k + kb := by omega
      rw [hkb] at OB2 ⊢
      have HKM := Lib.hid hkm
      have hla := SA.out.length
      have hlb := SB.out.length
      rw [List.length_take, HM.out, Nat.min_eq_left (by omega)] at hla
      rw [List.length_drop, HM.out, hkb] at hlb
      obtain ⟨ra, hra⟩ : ∃ z, z = oa.map Nm.row := ⟨_, rfl⟩
      obtain ⟨rb, hrb⟩ : ∃ z, z = ob.map Nm.row := ⟨_, rfl⟩
      have HRA := Lib.hid hra
      have HRB := Lib.hid hrb
      have HLA := Lib.hid (show ra.length = k by rw [hra, List.length_map]; exact hla)
      have HLB := Lib.hid (show rb.length = kb by rw [hrb, List.length_map]; exact hlb)
      rw [← hra] at OA2
      rw [← hrb] at OB2
      clear s2 o2 b2 IH hla hlb hra hrb hkb hkm
      obtain ⟨i0, hi0, hz0, hz1, hz2⟩ := infoR45
      obtain ⟨wm, hrun, hownm, hgrow⟩ := run_make_own (P := Try.prog) w2 w2.heap.size 51 45 i0 (.agg Row.zero.cells.toArray) 7 Try.underlying51 hi0 hz0 hz1 .i64 .i64 m (by rw [hz2]; omega) (by unfold maxLen; omega) (Nat.le_refl _)
      have bm : Below w2.heap.size w2 wm := (Below.refl _ _).grown hgrow (Nat.le_refl _) fun q hq => by cases hq
      have HOm := Lib.hid (show Own wm w2.heap.size 45 7 Row.cells (.slice (some ⟨w2.heap.size, 0, none⟩) 0 m) [] from hownm)
      have RAm := Lib.hid ((Own.rd OA2.out Row.cells_length).below bm)
      have RBm := Lib.hid ((Own.rd OB2.out Row.cells_length).below bm)
      have Bm := Lib.hid (B2.out.trans (bm.mono B2.out.size))
      have Sm := Lib.hid bm.size
      have BM := Lib.hid bm
      have BM := Lib.hid bm
      have BM := Lib.hid bm
      have BM := Lib.hid bm
      clear hownm hgrow bm
      go_wp2_with fail
      clear hrun hi0 hz0 hz1 hz2
      obtain ⟨h3, hh3⟩ : ∃ z, z = w2.heap.size := ⟨_, rfl⟩
      rw [← hh3] at HOm Sm ⊢
      have HH3 := Lib.hid hh3
      clear hh3
      go_loopw [7, 8, 9] (fun out x y wr => ∃ (i j no co : Nat) (Ao : Option Addr) (l : List Row), i ≤ k ∧ j ≤ kb ∧ x = .int .i64 i ∧ y = .int .i64 j ∧ out = .slice Ao no co ∧ Hid (no = i + j ∧ no = l.length) ∧ Hid (mergeR o ra rb = l ++ mergeR o (ra.drop i) (rb.drop j)) ∧ Hid (Own wr h3 45 7 Row.cells (.slice Ao no co) l) ∧ Hid (Below w2.heap.size w2 wr)) (fun _ x y _ => (k - (intOf x).toNat) + (kb - (intOf y).toNat))
      case atStart => exact ⟨0, 0, 0, m, _, [], by omega, by omega, rfl, rfl, rfl, Lib.hid ⟨rfl, rfl⟩, Lib.hid rfl, HOm, BM⟩
      case round =>
        clear HOm
        obtain ⟨i, j, no, co, Ao, l, hi, hj, rfl, rfl, rfl, HN, HM2, HO, HB⟩ := hrel
        have hi0 : (0 : Int) ≤ (i : Int) := by omega
        have hj0 : (0 : Int) ≤ (j : Int) := by omega
        have hi1 : i ≤ 16777216 := by have := HKM.out; omega
        have hj1 : j ≤ 16777216 := by have := HKM.out; omega
        by_cases hia : i < k
        · have h8 : (i : Int) < (k : Int) := by omega
          obtain ⟨x, hx⟩ : ∃ z, ra[i]? = some z := ⟨_, List.getElem?_eq_getElem (by rw [HLA.out]; exact hia)⟩
          obtain ⟨b1, off1, rfl, hb1, hc1⟩ := ((Own.rd OA2.out Row.cells_length).below HB.out).at hx
          obtain ⟨x0, x1, x2, x3, x4, x5, x6⟩ := x
          have k0 := hc1 0 (by omega)
          have k1 := hc1 1 (by omega)
          have k2 := hc1 2 (by omega)
          have k3 := hc1 3 (by omega)
          have k4 := hc1 4 (by omega)
          have k5 := hc1 5 (by omega)
          have k6 := hc1 6 (by omega)
          simp only [Row.cells, List.getElem?_cons_zero, List.getElem?_cons_succ, Nat.add_zero] at k0 k1 k2 k3 k4 k5 k6
          have HX := Lib.hid hx
          clear hc1 hx
          by_cases hjb : j < kb
          · have h9 : (j : Int) < (kb : Int) := by omega
            have h9' : ¬ (kb : Int) ≤ (j : Int) := by omega
            have hb9 : decide (kb ≤ j) = false := decide_eq_false (by omega)
            have hb8 : decide (i < k) = true := decide_eq_true (by omega)
            obtain ⟨y, hy⟩ : ∃ z, rb[j]? = some z := ⟨_, List.getElem?_eq_getElem (by rw [HLB.out]; exact hjb)⟩
            obtain ⟨b2, off2, rfl, hb2, hc2⟩ := ((Own.rd OB2.out Row.cells_length).below HB.out).at hy
            obtain ⟨y0, y1, y2, y3, y4, y5, y6⟩ := y
            have q0 := hc2 0 (by omega)
            have q1 := hc2 1 (by omega)
            have q2 := hc2 2 (by omega)
            have q3 := hc2 3 (by omega)
            have q4 := hc2 4 (by omega)
            have q5 := hc2 5 (by omega)
            have q6 := hc2 6 (by omega)
            simp only [Row.cells, List.getElem?_cons_zero, List.getElem?_cons_succ, Nat.add_zero] at q0 q1 q2 q3 q4 q5 q6
            have HY := Lib.hid hy
            clear hc2 hy
            go_wp2_with fail
            obtain ⟨bf, hbf⟩ : ∃ z, z = before o ⟨y0, y1, y2, y3, y4, y5, y6⟩ ⟨x0, x1, x2, x3, x4, x5, x6⟩ := ⟨_, rfl⟩
            have HBF := Lib.hid hbf
            have hbe := before7 o ho y0 y1 y2 y3 y4 y5 y6 x0 x1 x2 x3 x4 x5 x6
            rw [← hbf] at hbe
            clear hbf
            refine wp_region_still_tail 19 (by kernel_rfl) (by kernel_rfl) ?_
            simp only [List.take_succ_cons, List.take_zero, List.drop_succ_cons, List.drop_zero]
            repeat still_step
            refine wpStill_nil ?_
            change wpList _ _ _ _ _ wr.drew
            have HBD := Lib.hid HB.out.drew
            have HOD := Lib.hid (Own.drawn HO.out)
            generalize wr.drew = W0 at HBD HOD ⊢
            go_wp2_with fail
            refine (hbe _).mono ?_
            rintro e w5 ⟨rfl, b5⟩
            have B5 := Lib.hid b5
            clear b5
            have HBW := Lib.hid (HBD.out.trans (B5.out.mono HBD.out.size))
            have HOW := Lib.hid (Own.below HOD.out B5.out)
            clear HBD HOD
            clear B5 hbe HO HB
            obtain ⟨W, hW⟩ : ∃ z, z = w5 := ⟨_, rfl⟩
            subst hW
            clear k0 k1 k2 k3 k4 k5 k6 q0 q1 q2 q3 q4 q5 q6
            cases bf with
            | false =>
              have HTB := Lib.hid (show rb[j]? = none ∨ ∃ y, rb[j]? = some y ∧ before o y ⟨x0, x1, x2, x3, x4, x5, x6⟩ = false from .inr ⟨_, HY.out, HBF.out.symm⟩)
              obtain ⟨b', off', e', hb', hc'⟩ := ((Own.rd OA2.out Row.cells_length).below HBW.out).at HX.out
              injection e' with e'
              injection e' with e1 e2
              subst e1 e2
              have u0 := hc' 0 (by omega)
              have u1 := hc' 1 (by omega)
              have u2 := hc' 2 (by omega)
              have u3 := hc' 3 (by omega)
              have u4 := hc' 4 (by omega)
              have u5 := hc' 5 (by omega)
              have u6 := hc' 6 (by omega)
              simp only [Row.cells, List.getElem?_cons_zero, List.getElem?_cons_succ, Nat.add_zero] at u0 u1 u2 u3 u4 u5 u6
              have HSL := Lib.hid (show l.length + 1 ≤ maxLen ∧ (l.length + 1) * 64 ≤ 140737488355328 by have := HN.out; have := HKM.out; unfold maxLen; omega)
              have HSW := Lib.hid (show h3 ≤ W.heap.size by rw [HH3.out]; exact HBW.out.size)
              clear hc'
              go_wp2_with (at_builtin; go_loud (refine push_list Row.cells 45 51 45 (.agg Row.zero.cells.toArray) 7 64 Try.underlying51 (by kernel_rfl) rfl (by decide) Row.cells_length row_one _ _ (by rfl) (by rfl) h3 (.slice Ao no co) l (⟨x0, x1, x2, x3, x4, x5, x6⟩ : Row) (by rfl) (Own.alloc HOW.out _) W.heap.size 1 (by rfl) (RowAt.new' _ _ 45 [.int .i64 x0, .int .i64 x1, .int .i64 x2, .int .i64 x3, .int .i64 x4, .int .i64 x5, .string x6] rfl) HSL.out.1 HSL.out.2 (by have := HSW.out; simp; omega) (W.heap.size + 1) (by simp) ?_); intro g8 cap8 w8 o8 g8' l8 l9; have O8 := Lib.hid o8; have G8 := Lib.hid g8'; clear o8 g8' l8 l9)
              have HB8 := Lib.hid ((HBW.out.alloc HBW.out.size (.cells #[.int .i64 x0, .int .i64 x1, .int .i64 x2, .int .i64 x3, .int .i64 x4, .int .i64 x5, .string x6] 45)).grown G8.out (by have := HBW.out.size; simp; omega) fun q hq => by have := (Own.base HOW.out q hq).1; rw [HH3.out] at this; exact this)
              have HM8 := Lib.hid (show mergeR o ra rb = (l ++ [(⟨x0, x1, x2, x3, x4, x5, x6⟩ : Row)]) ++ mergeR o (ra.drop (i + 1)) (rb.drop j) by rw [HM2.out, mergeR_a HX.out HTB.out, List.append_assoc]; rfl)
              exact ⟨⟨i + 1, j, l.length + 1, cap8, _, l ++ [(⟨x0, x1, x2, x3, x4, x5, x6⟩ : Row)], by omega, by omega, rfl, rfl, rfl, Lib.hid ⟨by have := HN.out; omega, by rw [List.length_append]; rfl⟩, HM8, O8, HB8⟩, by show (k - ((i : Int) + 1).toNat) + (kb - (j : Int).toNat) < (k - (i : Int).toNat) + (kb - (j : Int).toNat); omega⟩
            | true =>
              have HTB := Lib.hid (show ra[i]? = none ∨ ∃ x, ra[i]? = some x ∧ before o ⟨y0, y1, y2, y3, y4, y5, y6⟩ x = true from .inr ⟨_, HX.out, HBF.out.symm⟩)
              obtain ⟨b', off', e', hb', hc'⟩ := ((Own.rd OB2.out Row.cells_length).below HBW.out).at HY.out
              injection e' with e'
              injection e' with e1 e2
              subst e1 e2
              have u0 := hc' 0 (by omega)
              have u1 := hc' 1 (by omega)
              have u2 := hc' 2 (by omega)
              have u3 := hc' 3 (by omega)
              have u4 := hc' 4 (by omega)
              have u5 := hc' 5 (by omega)
              have u6 := hc' 6 (by omega)
              simp only [Row.cells, List.getElem?_cons_zero, List.getElem?_cons_succ, Nat.add_zero] at u0 u1 u2 u3 u4 u5 u6
              have HSL := Lib.hid (show l.length + 1 ≤ maxLen ∧ (l.length + 1) * 64 ≤ 140737488355328 by have := HN.out; have := HKM.out; unfold maxLen; omega)
              have HSW := Lib.hid (show h3 ≤ W.heap.size by rw [HH3.out]; exact HBW.out.size)
              clear hc'
              go_wp2_with (at_builtin; go_loud (refine push_list Row.cells 45 51 45 (.agg Row.zero.cells.toArray) 7 64 Try.underlying51 (by kernel_rfl) rfl (by decide) Row.cells_length row_one _ _ (by rfl) (by rfl) h3 (.slice Ao no co) l (⟨y0, y1, y2, y3, y4, y5, y6⟩ : Row) (by rfl) (Own.alloc HOW.out _) W.heap.size 1 (by rfl) (RowAt.new' _ _ 45 [.int .i64 y0, .int .i64 y1, .int .i64 y2, .int .i64 y3, .int .i64 y4, .int .i64 y5, .string y6] rfl) HSL.out.1 HSL.out.2 (by have := HSW.out; simp; omega) (W.heap.size + 1) (by simp) ?_); intro g8 cap8 w8 o8 g8' l8 l9; have O8 := Lib.hid o8; have G8 := Lib.hid g8'; clear o8 g8' l8 l9)
              have HB8 := Lib.hid ((HBW.out.alloc HBW.out.size (.cells #[.int .i64 y0, .int .i64 y1, .int .i64 y2, .int .i64 y3, .int .i64 y4, .int .i64 y5, .string y6] 45)).grown G8.out (by have := HBW.out.size; simp; omega) fun q hq => by have := (Own.base HOW.out q hq).1; rw [HH3.out] at this; exact this)
              have HM8 := Lib.hid (show mergeR o ra rb = (l ++ [(⟨y0, y1, y2, y3, y4, y5, y6⟩ : Row)]) ++ mergeR o (ra.drop i) (rb.drop (j + 1)) by rw [HM2.out, mergeR_b HY.out HTB.out, List.append_assoc]; rfl)
              exact ⟨⟨i, j + 1, l.length + 1, cap8, _, l ++ [(⟨y0, y1, y2, y3, y4, y5, y6⟩ : Row)], by omega, by omega, rfl, rfl, rfl, Lib.hid ⟨by have := HN.out; omega, by rw [List.length_append]; rfl⟩, HM8, O8, HB8⟩, by show (k - (i : Int).toNat) + (kb - ((j : Int) + 1).toNat) < (k - (i : Int).toNat) + (kb - (j : Int).toNat); omega⟩
          · have h9 : ¬ (j : Int) < (kb : Int) := by omega
            have h9' : (kb : Int) ≤ (j : Int) := by omega
            go_wp2_with fail
            go_region
            have HBW := Lib.hid HB.out.drew
            have HOW := Lib.hid (Own.drawn HO.out)
            clear HO HB k0 k1 k2 k3 k4 k5 k6
            generalize wr.drew = W at HBW HOW ⊢
            have HTB := Lib.hid (show rb[j]? = none ∨ ∃ y, rb[j]? = some y ∧ before o y ⟨x0, x1, x2, x3, x4, x5, x6⟩ = false from .inl (List.getElem?_eq_none (by rw [HLB.out]; omega)))
            obtain ⟨b', off', e', hb', hc'⟩ := ((Own.rd OA2.out Row.cells_length).below HBW.out).at HX.out
            injection e' with e'
            injection e' with e1 e2
            subst e1 e2
            have u0 := hc' 0 (by omega)
            have u1 := hc' 1 (by omega)
            have u2 := hc' 2 (by omega)
            have u3 := hc' 3 (by omega)
            have u4 := hc' 4 (by omega)
            have u5 := hc' 5 (by omega)
            have u6 := hc' 6 (by omega)
            simp only [Row.cells, List.getElem?_cons_zero, List.getElem?_cons_succ, Nat.add_zero] at u0 u1 u2 u3 u4 u5 u6
            have HSL := Lib.hid (show l.length + 1 ≤ maxLen ∧ (l.length + 1) * 64 ≤ 140737488355328 by have := HN.out; have := HKM.out; unfold maxLen; omega)
            have HSW := Lib.hid (show h3 ≤ W.heap.size by rw [HH3.out]; exact HBW.out.size)
            clear hc'
            go_wp2_with (at_builtin; go_loud (refine push_list Row.cells 45 51 45 (.agg Row.zero.cells.toArray) 7 64 Try.underlying51 (by kernel_rfl) rfl (by decide) Row.cells_length row_one _ _ (by rfl) (by rfl) h3 (.slice Ao no co) l (⟨x0, x1, x2, x3, x4, x5, x6⟩ : Row) (by rfl) (Own.alloc HOW.out _) W.heap.size 1 (by rfl) (RowAt.new' _ _ 45 [.int .i64 x0, .int .i64 x1, .int .i64 x2, .int .i64 x3, .int .i64 x4, .int .i64 x5, .string x6] rfl) HSL.out.1 HSL.out.2 (by have := HSW.out; simp; omega) (W.heap.size + 1) (by simp) ?_); intro g8 cap8 w8 o8 g8' l8 l9; have O8 := Lib.hid o8; have G8 := Lib.hid g8'; clear o8 g8' l8 l9)
            have HB8 := Lib.hid ((HBW.out.alloc HBW.out.size (.cells #[.int .i64 x0, .int .i64 x1, .int .i64 x2, .int .i64 x3, .int .i64 x4, .int .i64 x5, .string x6] 45)).grown G8.out (by have := HBW.out.size; simp; omega) fun q hq => by have := (Own.base HOW.out q hq).1; rw [HH3.out] at this; exact this)
            have HM8 := Lib.hid (show mergeR o ra rb = (l ++ [(⟨x0, x1, x2, x3, x4, x5, x6⟩ : Row)]) ++ mergeR o (ra.drop (i + 1)) (rb.drop j) by rw [HM2.out, mergeR_a HX.out HTB.out, List.append_assoc]; rfl)
            exact ⟨⟨i + 1, j, l.length + 1, cap8, _, l ++ [(⟨x0, x1, x2, x3, x4, x5, x6⟩ : Row)], by omega, by omega, rfl, rfl, rfl, Lib.hid ⟨by have := HN.out; omega, by rw [List.length_append]; rfl⟩, HM8, O8, HB8⟩, by show (k - ((i : Int) + 1).toNat) + (kb - (j : Int).toNat) < (k - (i : Int).toNat) + (kb - (j : Int).toNat); omega⟩
        · have h8 : ¬ (i : Int) < (k : Int) := by omega
          by_cases hjb : j < kb
          · have h9 : (j : Int) < (kb : Int) := by omega
            have h9' : ¬ (kb : Int) ≤ (j : Int) := by omega
            have hb9 : decide (kb ≤ j) = false := decide_eq_false (by omega)
            have hb8 : decide (i < k) = false := decide_eq_false (by omega)
            obtain ⟨y, hy⟩ : ∃ z, rb[j]? = some z := ⟨_, List.getElem?_eq_getElem (by rw [HLB.out]; exact hjb)⟩
            obtain ⟨b2, off2, rfl, hb2, hc2⟩ := ((Own.rd OB2.out Row.cells_length).below HB.out).at hy
            obtain ⟨y0, y1, y2, y3, y4, y5, y6⟩ := y
            have q0 := hc2 0 (by omega)
            have q1 := hc2 1 (by omega)
            have q2 := hc2 2 (by omega)
            have q3 := hc2 3 (by omega)
            have q4 := hc2 4 (by omega)
            have q5 := hc2 5 (by omega)
            have q6 := hc2 6 (by omega)
            simp only [Row.cells, List.getElem?_cons_zero, List.getElem?_cons_succ, Nat.add_zero] at q0 q1 q2 q3 q4 q5 q6
            have HY := Lib.hid hy
            clear hc2 hy
            go_wp2_with fail
            go_region
            have HBW := Lib.hid HB.out.drew
            have HOW := Lib.hid (Own.drawn HO.out)
            clear HO HB q0 q1 q2 q3 q4 q5 q6
            generalize wr.drew = W at HBW HOW ⊢
            have HTB := Lib.hid (show ra[i]? = none ∨ ∃ x, ra[i]? = some x ∧ before o ⟨y0, y1, y2, y3, y4, y5, y6⟩ x = true from .inl (List.getElem?_eq_none (by rw [HLA.out]; omega)))
            obtain ⟨b', off', e', hb', hc'⟩ := ((Own.rd OB2.out Row.cells_length).below HBW.out).at HY.out
            injection e' with e'
            injection e' with e1 e2
            subst e1 e2
            have u0 := hc' 0 (by omega)
            have u1 := hc' 1 (by omega)
            have u2 := hc' 2 (by omega)
            have u3 := hc' 3 (by omega)
            have u4 := hc' 4 (by omega)
            have u5 := hc' 5 (by omega)
            have u6 := hc' 6 (by omega)
            simp only [Row.cells, List.getElem?_cons_zero, List.getElem?_cons_succ, Nat.add_zero] at u0 u1 u2 u3 u4 u5 u6
            have HSL := Lib.hid (show l.length + 1 ≤ maxLen ∧ (l.length + 1) * 64 ≤ 140737488355328 by have := HN.out; have := HKM.out; unfold maxLen; omega)
            have HSW := Lib.hid (show h3 ≤ W.heap.size by rw [HH3.out]; exact HBW.out.size)
            clear hc'
            go_wp2_with (at_builtin; go_loud (refine push_list Row.cells 45 51 45 (.agg Row.zero.cells.toArray) 7 64 Try.underlying51 (by kernel_rfl) rfl (by decide) Row.cells_length row_one _ _ (by rfl) (by rfl) h3 (.slice Ao no co) l (⟨y0, y1, y2, y3, y4, y5, y6⟩ : Row) (by rfl) (Own.alloc HOW.out _) W.heap.size 1 (by rfl) (RowAt.new' _ _ 45 [.int .i64 y0, .int .i64 y1, .int .i64 y2, .int .i64 y3, .int .i64 y4, .int .i64 y5, .string y6] rfl) HSL.out.1 HSL.out.2 (by have := HSW.out; simp; omega) (W.heap.size + 1) (by simp) ?_); intro g8 cap8 w8 o8 g8' l8 l9; have O8 := Lib.hid o8; have G8 := Lib.hid g8'; clear o8 g8' l8 l9)
            have HB8 := Lib.hid ((HBW.out.alloc HBW.out.size (.cells #[.int .i64 y0, .int .i64 y1, .int .i64 y2, .int .i64 y3, .int .i64 y4, .int .i64 y5, .string y6] 45)).grown G8.out (by have := HBW.out.size; simp; omega) fun q hq => by have := (Own.base HOW.out q hq).1; rw [HH3.out] at this; exact this)
            have HM8 := Lib.hid (show mergeR o ra rb = (l ++ [(⟨y0, y1, y2, y3, y4, y5, y6⟩ : Row)]) ++ mergeR o (ra.drop i) (rb.drop (j + 1)) by rw [HM2.out, mergeR_b HY.out HTB.out, List.append_assoc]; rfl)
            exact ⟨⟨i, j + 1, l.length + 1, cap8, _, l ++ [(⟨y0, y1, y2, y3, y4, y5, y6⟩ : Row)], by omega, by omega, rfl, rfl, rfl, Lib.hid ⟨by have := HN.out; omega, by rw [List.length_append]; rfl⟩, HM8, O8, HB8⟩, by show (k - (i : Int).toNat) + (kb - ((j : Int) + 1).toNat) < (k - (i : Int).toNat) + (kb - (j : Int).toNat); omega⟩
          · have h9 : ¬ (j : Int) < (kb : Int) := by omega
            have hik : i = k := by omega
            have hjk : j = kb := by omega
            have hml : no = m ∧ mergeR o ra rb = l := by
              refine ⟨by have := HN.out; have := HKM.out; omega, ?_⟩
              rw [HM2.out, List.drop_eq_nil_of_le (by rw [HLA.out]; omega), List.drop_eq_nil_of_le (by rw [HLB.out]; omega), mergeR_left, List.append_nil]
            have HML := Lib.hid hml
            clear hik hjk hml
            go_wp2_with fail
            go_ret
            obtain ⟨out, hs, ho2⟩ := sorted_merge ho SA.out SB.out
            rw [List.take_append_drop, ← HRA.out, ← HRB.out, HML.out.2] at *
            refine ⟨Ao, co, by first | rfl | (rw [HML.out.1]; rfl), out, hs, ?_, ?_⟩
            · rw [ho2, ← HML.out.1]
              exact Own.mono HO.out (by rw [HH3.out]; exact B2.out.size)
            · exact B2.out.trans (HB.out.mono B2.out.size)
end Go.Proofs.Ytgcfpepaapdjoaa
