/- Answers are memory of their own: what the check of the memory's law does. -/
import Derived.Test.YtmmfobbalhpomaaRG
namespace Go.Proofs.Ytmmfobbalhpomaa
set_option linter.unusedVariables false
set_option linter.unusedSimpArgs false
open Go.RowKit

theorem own_some {w : World} {B : Nat} {v : Value} {xs : List Row} (h : Own w B 30 7 Row.cells v xs) (hl : 0 < xs.length) : ∃ g c, v = .slice (some ⟨g, 0, none⟩) xs.length c ∧ B ≤ g ∧ g < w.heap.size := by
  rcases h.cases with ⟨-, rfl⟩ | ⟨g, cap, rest, rfl, hb, -, -, hr⟩
  · simp at hl
  · exact ⟨g, cap, rfl, hb, hr.lt⟩
theorem row7 (x : Row) : ∃ x0 x1 x2 x3 x4 x5 x6, x = ⟨x0, x1, x2, x3, x4, x5, x6⟩ := ⟨_, _, _, _, _, _, _, rfl⟩
theorem own_none30 (w : World) : Own (w.alloc (.cells #[] 30)) w.heap.size 30 7 Row.cells (.slice (some ⟨w.heap.size, 0, none⟩) 0 0) [] :=
  RowAt.own (RowAt.new w 30 []) (Nat.le_refl _) rfl (by decide)
theorem marks_five {w : World} {n g0 g1 g2 g3 g4 c0 c1 c2 c3 c4 : Nat} {x0 x1 x2 x3 x4 : List Row} (h0 : Own w 0 30 7 Row.cells (.slice (some ⟨g0, 0, none⟩) n c0) x0) (h1 : Own w 0 30 7 Row.cells (.slice (some ⟨g1, 0, none⟩) n c1) x1) (h2 : Own w 0 30 7 Row.cells (.slice (some ⟨g2, 0, none⟩) n c2) x2)
    (h3 : Own w 0 30 7 Row.cells (.slice (some ⟨g3, 0, none⟩) n c3) x3) (h4 : Own w 0 30 7 Row.cells (.slice (some ⟨g4, 0, none⟩) n c4) x4) (d : g4 < g0 ∧ g0 < g1 ∧ g1 < g2 ∧ g2 < g3) : Marks w [g0, g1, g2, g3, g4] [c0, c1, c2, c3, c4] n [x0, x1, x2, x3, x4] := by
  refine ⟨fun t g c xs e1 e2 e3 => ?_, fun s t g e1 e2 => ?_⟩
  · match t with
    | 0 => simp at e1 e2 e3; subst e1 e2 e3; exact h0
    | 1 => simp at e1 e2 e3; subst e1 e2 e3; exact h1
    | 2 => simp at e1 e2 e3; subst e1 e2 e3; exact h2
    | 3 => simp at e1 e2 e3; subst e1 e2 e3; exact h3
    | 4 => simp at e1 e2 e3; subst e1 e2 e3; exact h4
    | t + 5 => simp at e1
  · match s, t with
    | 0, 0 => rfl
    | 0, 1 => simp at e1 e2; omega
    | 0, 2 => simp at e1 e2; omega
    | 0, 3 => simp at e1 e2; omega
    | 0, 4 => simp at e1 e2; omega
    | 1, 0 => simp at e1 e2; omega
    | 1, 1 => rfl
    | 1, 2 => simp at e1 e2; omega
    | 1, 3 => simp at e1 e2; omega
    | 1, 4 => simp at e1 e2; omega
    | 2, 0 => simp at e1 e2; omega
    | 2, 1 => simp at e1 e2; omega
    | 2, 2 => rfl
    | 2, 3 => simp at e1 e2; omega
    | 2, 4 => simp at e1 e2; omega
    | 3, 0 => simp at e1 e2; omega
    | 3, 1 => simp at e1 e2; omega
    | 3, 2 => simp at e1 e2; omega
    | 3, 3 => rfl
    | 3, 4 => simp at e1 e2; omega
    | 4, 0 => simp at e1 e2; omega
    | 4, 1 => simp at e1 e2; omega
    | 4, 2 => simp at e1 e2; omega
    | 4, 3 => simp at e1 e2; omega
    | 4, 4 => rfl
    | s + 5, _ => simp at e1
    | _, t + 5 => simp at e2
/-- Behind the marks: what is still to be grown is owned; all may be read. -/
structure Kept (w : World) (gs cs : List Nat) (n : Nat) (xss : List (List Row)) (i : Nat) : Prop where
  own : ∀ (t g c : Nat) (xs : List Row), i ≤ t → gs[t]? = some g → cs[t]? = some c → xss[t]? = some xs → Own w 0 30 7 Row.cells (.slice (some ⟨g, 0, none⟩) n c) xs
  rd : ∀ (t g : Nat) (xs : List Row), gs[t]? = some g → xss[t]? = some xs → SliceRd w (some ⟨g, 0, none⟩) 7 Row.cells xs
  lt : ∀ (t g : Nat), gs[t]? = some g → g < w.heap.size
theorem Kept.below {w w' : World} {gs cs : List Nat} {n i : Nat} {xss : List (List Row)} (h : Kept w gs cs n xss i) (hb : Below w.heap.size w w') : Kept w' gs cs n xss i :=
  ⟨fun t g c xs a1 a2 a3 a4 => Own.below (h.own t g c xs a1 a2 a3 a4) hb, fun t g xs a1 a2 => (h.rd t g xs a1 a2).below hb, fun t g a => Nat.lt_of_lt_of_le (h.lt t g a) hb.size⟩
theorem Kept.next {w : World} {gs cs : List Nat} {n i : Nat} {xss : List (List Row)} (h : Kept w gs cs n xss i) : Kept w gs cs n xss (i + 1) :=
  ⟨fun t g c xs a1 a2 a3 a4 => h.own t g c xs (by omega) a2 a3 a4, h.rd, h.lt⟩
theorem Kept.grow {w w' : World} {gs cs : List Nat} {n i g g' : Nat} {xss : List (List Row)} {xs : List Row} (h : Kept w gs cs n xss (i + 1)) (nd : ∀ (s t g : Nat), gs[s]? = some g → gs[t]? = some g → s = t) (hg : gs[i]? = some g) (hx : xss[i]? = some xs) (hw : w.grownBy w' (some g'))
    (hc : (g' = g ∧ SliceRd w' (some ⟨g, 0, none⟩) 7 Row.cells xs) ∨ ∀ t : Nat, gs[t]? ≠ some g') : Kept w' gs cs n xss (i + 1) := by
  have ht : Turn (fun q => g' = q) w w' := (Turn.refl _ w).grown hw fun k hk => .inl (Option.some.inj hk)
  refine ⟨fun t g1 c xs1 a1 a2 a3 a4 => Own.turn (h.own t g1 c xs1 a1 a2 a3 a4) ht fun q hq e => ?_, fun t g1 xs1 a1 a2 => ?_, fun t g1 a => Nat.lt_of_lt_of_le (h.lt t g1 a) ht.size⟩
  · have e2 : g1 = q := by simpa [Value.ownBlock] using hq
    rcases hc with ⟨e3, -⟩ | hc
    · have := nd i t g hg (by rw [a2, e2, ← e, e3])
      omega
    · exact hc t (by rw [a2, e2, e])
  · by_cases e : g1 = g'
    · rcases hc with ⟨e3, hr⟩ | hc
      · have e4 := nd i t g hg (by rw [a1, e, e3])
        subst e4
        rw [hg] at a1
        rw [hx] at a2
        injection a1 with a1
        injection a2 with a2
        subst a1 a2
        exact hr
      · exact absurd (by rw [a1, e]) (hc t)
    · exact (h.rd t g1 xs1 a1 a2).turn ht fun a ha e2 => e (by
        injection ha with ha
        rw [e2, ← ha])
theorem kept_append {w0 w w' : World} {gs cs : List Nat} {n i g g' g8 m c' cap8 gl : Nat} {xss : List (List Row)} {xs zs : List Row} {y : Row} {cv : List Value} (hk : Kept w gs cs n xss (i + 1)) (nd : ∀ (s t g : Nat), gs[s]? = some g → gs[t]? = some g → s = t) (hg : gs[i]? = some g) (hx : xss[i]? = some xs)
    (ho : Own w 0 30 7 Row.cells (.slice (some ⟨g', 0, none⟩) m c') zs) (hca : (g' = g ∧ ∃ ys, zs = xs ++ ys) ∨ ∀ t : Nat, gs[t]? ≠ some g') (hge : w0.heap.size ≤ g') (hr : RowAt w gl 31 cv) (hb : Below w0.heap.size w0 w)
    (o8 : Own w' 0 30 7 Row.cells (.slice (some ⟨g8, 0, none⟩) (zs.length + 1) cap8) (zs ++ [y])) (h8 : ((Value.slice (some ⟨g', 0, none⟩) m c').ownBlock = some g8 ∧ w.grownBy w' (Value.slice (some ⟨g', 0, none⟩) m c').ownBlock) ∨ (g8 = w.heap.size ∧ Below w.heap.size w w')) :
    ((g8 = g ∧ ∃ ys, zs ++ [y] = xs ++ ys) ∨ ∀ t : Nat, gs[t]? ≠ some g8) ∧ w0.heap.size ≤ g8 ∧ Kept w' gs cs n xss (i + 1) ∧ RowAt w' gl 31 cv ∧ Below w0.heap.size w0 w' := by
  rcases h8 with ⟨e, hw⟩ | ⟨e, hw⟩
  · have e1 : g' = g8 := Option.some.inj e
    subst e1
    have hw' : w.grownBy w' (some g') := hw
    have hfar := own_far ho hr (by decide)
    refine ⟨?_, hge, hk.grow nd hg hx hw' ?_, grown_far hw hfar hr, hb.grown hw' hb.size fun q hq => by rw [← Option.some.inj hq]; exact hge⟩
    · rcases hca with ⟨e2, ys, h3⟩ | h3
      · exact .inl ⟨e2, ys ++ [y], by rw [h3, List.append_assoc]⟩
      · exact .inr h3
    · rcases hca with ⟨e2, ys, h3⟩ | h3
      · subst e2
        refine .inl ⟨rfl, ?_⟩
        rw [h3, List.append_assoc] at o8
        exact Own.rd (Own.shrink Row.cells_length o8) Row.cells_length
      · exact .inr h3
  · refine ⟨.inr fun t ht => ?_, by rw [e]; exact hb.size, hk.below hw, hr.below hw, hb.trans (hw.mono hb.size)⟩
    have := hk.lt t g8 ht
    omega
theorem marks_step {i k : Nat} {xss : List (List Row)} {xs : List Row} (h1 : xss[i]? = some xs) (h2 : xss.length = 5) (h3 : ∀ (t : Nat) (xs : List Row), t < i → xss[t]? = some xs → ∀ x ∈ xs, x.kind = 10 + (t : Int)) (h4 : ∀ (s : Nat) (x : Row), s < k → xs[s]? = some x → x.kind = 10 + (i : Int)) (hk : k < xs.length) (y : Row) (hy : y.kind = 10 + (i : Int)) :
    (xss.set i (xs.set k y))[i]? = some (xs.set k y) ∧ (xss.set i (xs.set k y)).length = 5 ∧ (∀ (t : Nat) (zs : List Row), t < i → (xss.set i (xs.set k y))[t]? = some zs → ∀ x ∈ zs, x.kind = 10 + (t : Int)) ∧ ∀ (s : Nat) (x : Row), s < k + 1 → (xs.set k y)[s]? = some x → x.kind = 10 + (i : Int) := by
  have hi := (List.getElem?_eq_some_iff.1 h1).1
  refine ⟨by rw [List.getElem?_set, if_pos rfl, if_pos hi], by rw [List.length_set]; exact h2, fun t zs ht h => ?_, fun s x hs h => ?_⟩
  · have hne : ¬ i = t := by omega
    rw [List.getElem?_set, if_neg hne] at h
    exact h3 t zs ht h
  · by_cases e : k = s
    · subst e
      rw [List.getElem?_set, if_pos rfl, if_pos hk] at h
      injection h with h
      rw [← h]
      exact hy
    · rw [List.getElem?_set, if_neg e] at h
      exact h4 s x (by omega) h
theorem marks_row {i n : Nat} {xss : List (List Row)} {xs : List Row} (h1 : xss[i]? = some xs) (h3 : ∀ (t : Nat) (xs : List Row), t < i → xss[t]? = some xs → ∀ x ∈ xs, x.kind = 10 + (t : Int)) (h4 : ∀ (s : Nat) (x : Row), s < n → xs[s]? = some x → x.kind = 10 + (i : Int)) (hn : n = xs.length) :
    ∀ (t : Nat) (zs : List Row), t < i + 1 → xss[t]? = some zs → ∀ x ∈ zs, x.kind = 10 + (t : Int) := by
  intro t zs ht h x hx
  by_cases e : t = i
  · subst e
    rw [h1] at h
    injection h with h
    subst h
    obtain ⟨s, hs, rfl⟩ := List.getElem_of_mem hx
    exact h4 s _ (by omega) (List.getElem?_eq_getElem hs)
  · exact h3 t zs (by omega) h x hx
set_option maxRecDepth 100000 in
set_option maxHeartbeats 16000000 in
theorem memory_walk (A : Option Addr) (n cap : Nat) (rows : List Row) (w : World) (hn : rows.length = n) (hm : n < 2199023255552) (hz : A = none → cap = 0) (h : SliceRd w A 7 Row.cells rows) :
    Calls Try.prog 7 #[.slice A n cap] w fun e w' => e = .returned (.bool true) ∧ Below w.heap.size w w' := by
  have HN := Lib.hid hn
  have HR := Lib.hid h
  have HZ := Lib.hid hz
  clear hn h hz
  go_enter Try.func7, Try.ntmps7
  go_wp2_with fail
  refine (anchor_any w).mono ?_
  rintro e w1 ⟨rfl, b1⟩
  have B1 := Lib.hid b1
  clear b1
  by_cases hn2 : (n : Int) < 2
  · go_wp2_with fail
    go_ret
    exact ⟨rfl, B1.out⟩
  by_cases hn100 : (100 : Int) < n
  · go_wp2_with fail
    go_ret
    exact ⟨rfl, B1.out⟩
  have hn1 : 2 ≤ n ∧ n ≤ 100 := by omega
  obtain ⟨hn1, hn3⟩ := hn1
  go_wp2_with fail
  go_loopw [41] (fun ix wr => ∃ i : Nat, i ≤ n ∧ ix = .int .i64 i ∧ Hid (∀ x ∈ rows.take i, x.ok = true) ∧ Hid (Below w.heap.size w wr)) (fun ix _ => n - (intOf ix).toNat)
  case atStart => exact ⟨0, by omega, rfl, Lib.hid (by simp), B1⟩
  case round =>
    clear B1
    obtain ⟨i, hi, rfl, HOK, HB⟩ := hrel
    by_cases hlt : i < n
    · obtain ⟨x, hx⟩ : ∃ x, rows[i]? = some x := ⟨_, List.getElem?_eq_getElem (by rw [HN.out]; exact hlt)⟩
      obtain ⟨b0, off, rfl, hb0, hc⟩ := (HR.out.below HB.out).at hx
      have htk : rows.take (i + 1) = rows.take i ++ [x] := by rw [List.take_add_one, hx]; rfl
      obtain ⟨x0, x1, x2, x3, x4, x5, x6⟩ := x
      have HTK := Lib.hid htk
      have k0 := hc 0 (by omega)
      have k1 := hc 1 (by omega)
      have k2 := hc 2 (by omega)
      have k3 := hc 3 (by omega)
      have k4 := hc 4 (by omega)
      have k5 := hc 5 (by omega)
      have k6 := hc 6 (by omega)
      simp only [Row.cells, List.getElem?_cons_zero, List.getElem?_cons_succ, Nat.add_zero] at k0 k1 k2 k3 k4 k5 k6
      have hi0 : (0 : Int) ≤ (i : Int) := by omega
      have hi1 : (i : Int) < (n : Int) := by omega
      have HBA := Lib.hid (HB.out.alloc HB.out.size (.cells #[.int .i64 x0, .int .i64 x1, .int .i64 x2, .int .i64 x3, .int .i64 x4, .int .i64 x5, .string x6] 30))
      clear hc hx htk
      go_wp2_with fail
      refine (plain7 x0 x1 x2 x3 x4 x5 x6 _).mono ?_
      rintro e w4 ⟨rfl, b4⟩
      have HB4 := Lib.hid (HBA.out.trans (b4.mono HBA.out.size))
      clear b4 k0 k1 k2 k3 k4 k5 k6 HB HBA
      go_wp2_with fail
      refine (refvalid_any ⟨x0, x1, x2, x3, x4, x5, x6⟩ _).mono ?_
      rintro e w5 ⟨rfl, b5⟩
      have HB5 := Lib.hid (HB4.out.trans (b5.mono HB4.out.size))
      clear b5
      cases hok : Row.ok ⟨x0, x1, x2, x3, x4, x5, x6⟩ with
      | false =>
        go_wp2_with fail
        go_ret
        exact ⟨rfl, HB5.out⟩
      | true =>
        have HOK2 := Lib.hid (show ∀ x ∈ rows.take (i + 1), x.ok = true by
          rw [HTK.out]
          intro x hx
          rcases List.mem_append.1 hx with hx | hx
          · exact HOK.out x hx
          · rw [List.mem_singleton.1 hx]; exact hok)
        clear hok
        go_wp2_with fail
        exact ⟨⟨i + 1, by omega, rfl, HOK2, HB5⟩, by show n - ((i : Int) + 1).toNat < n - (i : Int).toNat; omega⟩
    · obtain rfl : n = i := by omega
      have hall : rows.take n = rows := List.take_of_length_le (by rw [HN.out]; exact Nat.le_refl _)
      rw [hall] at HOK
      clear hall hlt hi
      obtain ⟨W1, hW1⟩ : ∃ z, z = wr := ⟨_, rfl⟩
      subst hW1
      go_wp2_with fail
      refine (new_any 1 16777216 (.inl rfl) (by decide) (by decide) W1).mono ?_
      rintro e w2 ⟨rfl, p2, b2⟩
      obtain ⟨b, hb⟩ : ∃ z, z = W1.heap.size := ⟨_, rfl⟩
      rw [← hb] at p2 b2 ⊢
      have S1 := Lib.hid (show w.heap.size ≤ b by have := HB.out.size; omega)
      have P2 := Lib.hid (show BP w2 b w.heap.size 1 16777216 0 0 (.slice none 0 0) (rows.take 0) from ⟨p2.head, Own.nil _ _ _ _ _, p2.ord, p2.len, p2.le, p2.top, p2.pk0, p2.pkl⟩)
      have B2 := Lib.hid (HB.out.trans (b2.mono (by have := S1.out; omega)))
      have HSZ := Lib.hid (fun x (hx : x ∈ rows) => (sizeF_le x).1 (HOK.out x hx))
      clear p2 b2 hb HB
      go_wp2_with fail
      go_loopw [62] (fun ix wr => ∃ (i : Nat) (y pk : Int) (v : Value), i ≤ n ∧ ix = .int .i64 i ∧ Hid (y ≤ 1000 * (i : Int)) ∧ Hid (BP wr b w.heap.size 1 16777216 y pk v (rows.take i)) ∧ Hid (Below w.heap.size w wr)) (fun ix _ => n - (intOf ix).toNat)
      case atStart => exact ⟨0, 0, 0, _, by omega, rfl, Lib.hid (by omega), P2, B2⟩
      case round =>
        clear P2 B2
        obtain ⟨i, y, pk, v, hi, rfl, HY, HP, HB⟩ := hrel
        by_cases hlt : i < n
        · obtain ⟨x, hx⟩ : ∃ x, rows[i]? = some x := ⟨_, List.getElem?_eq_getElem (by rw [HN.out]; exact hlt)⟩
          obtain ⟨b0, off, rfl, hb0, hc⟩ := (HR.out.below HB.out).at hx
          have htk : rows.take (i + 1) = rows.take i ++ [x] := by rw [List.take_add_one, hx]; rfl
          have hxm := List.mem_of_getElem? hx
          obtain ⟨x0, x1, x2, x3, x4, x5, x6⟩ := x
          have HTK := Lib.hid htk
          have HXM := Lib.hid hxm
          have k0 := hc 0 (by omega)
          have k1 := hc 1 (by omega)
          have k2 := hc 2 (by omega)
          have k3 := hc 3 (by omega)
          have k4 := hc 4 (by omega)
          have k5 := hc 5 (by omega)
          have k6 := hc 6 (by omega)
          simp only [Row.cells, List.getElem?_cons_zero, List.getElem?_cons_succ, Nat.add_zero] at k0 k1 k2 k3 k4 k5 k6
          have hi0 : (0 : Int) ≤ (i : Int) := by omega
          have hi1 : (i : Int) < (n : Int) := by omega
          have hba := (Below.refl wr.heap.size wr).alloc (Nat.le_refl _) (.cells #[.int .i64 x0, .int .i64 x1, .int .i64 x2, .int .i64 x3, .int .i64 x4, .int .i64 x5, .string x6] 30)
          have HPA := Lib.hid (HP.out.below hba)
          have HBA := Lib.hid (HB.out.trans (hba.mono HB.out.size))
          clear hc hx htk hba hxm
          go_wp2_with fail
          refine (add_ok b w.heap.size 1 16777216 y pk v (rows.take i) ⟨x0, x1, x2, x3, x4, x5, x6⟩ _ HPA.out HBA.out.size (HOK.out _ HXM.out) (by have := HSZ.out _ HXM.out; omega) (by have := HSZ.out _ HXM.out; have := HY.out; omega)).mono ?_
          rintro e w4 ⟨v2, pk2, rfl, p4, -, t4⟩
          rw [← HTK.out] at p4
          have P4 := Lib.hid p4
          have B4 := Lib.hid (Turn.down HBA.out (Nat.le_refl _) t4 fun q hq => by
            rcases hq with rfl | hq
            · exact S1.out
            · exact (Own.base HPA.out.own q hq).1)
          have HY4 := Lib.hid (show y + sizeF ⟨x0, x1, x2, x3, x4, x5, x6⟩ ≤ 1000 * ((i + 1 : Nat) : Int) by have := HSZ.out _ HXM.out; have := HY.out; omega)
          clear p4 t4 k0 k1 k2 k3 k4 k5 k6 HP HB HPA HBA
          go_wp2_with fail
          exact ⟨⟨i + 1, _, _, _, by omega, rfl, HY4, P4, B4⟩, by show n - ((i : Int) + 1).toNat < n - (i : Int).toNat; omega⟩
        · obtain rfl : n = i := by omega
          have hall : rows.take n = rows := List.take_of_length_le (by rw [HN.out]; exact Nat.le_refl _)
          rw [hall] at HP
          clear hall hlt hi
          obtain ⟨W2, hW2⟩ : ∃ z, z = wr := ⟨_, rfl⟩
          subst hW2
          have HLW := Lib.hid HB.out.size
          have hrd := SliceRd.read (cap := cap) ((HR.out.below HB.out).below ((Below.refl W2.heap.size W2).alloc (Nat.le_refl _) (.cells #[] 30))) Row.cells_length HZ.out
          rw [HN.out] at hrd
          have HRD := Lib.hid hrd
          have HO := Lib.hid (own_none30 W2)
          have HSL := Lib.hid (show ([] : List Row).length + rows.length ≤ maxLen ∧ (([] : List Row).length + rows.length) * 64 ≤ 140737488355328 by rw [HN.out]; unfold maxLen; simp; omega)
          clear hrd
          go_wp2_with (at_builtin; go_loud (refine cat_list Row.cells 30 31 31 30 (.agg Row.zero.cells.toArray) 7 64 Try.underlying31 Try.underlying31 (by kernel_rfl) rfl (by decide) Row.cells_length row_one _ _ (by rfl) (by rfl) W2.heap.size (.slice (some ⟨W2.heap.size, 0, none⟩) 0 0) [] rows (by rfl) HO.out (.slice A n cap) (by rfl) HRD.out HSL.out.1 HSL.out.2 (by simp) ?_))
          intro v3 w3 o3 g3 l3
          have b23 := (((Below.refl W2.heap.size W2).alloc (Nat.le_refl _) (.cells #[] 30)).grown g3 (by simp) fun q hq => by
            have : W2.heap.size = q := by simpa [Value.ownBlock] using hq
            omega)
          try simp only [List.nil_append] at o3
          obtain ⟨ge, ce, rfl, le1, le2⟩ := own_some o3 (by rw [HN.out]; omega)
          rw [HN.out] at o3 ⊢
          have OE := Lib.hid o3
          have LE := Lib.hid (show W2.heap.size ≤ ge ∧ ge < w3.heap.size from ⟨le1, le2⟩)
          have P3 := Lib.hid (HP.out.below b23)
          have B3 := Lib.hid (HB.out.trans (b23.mono HB.out.size))
          clear o3 g3 l3 b23 le1 le2 HP HB HRD HO HSL
          go_wp2_with fail
          refine (sort_any 1 (.inl rfl) (some ⟨ge, 0, none⟩) n ce rows HN.out (by omega) w3 (rows_at OE.out)).mono ?_
          rintro e w4 ⟨v4, op, rfl, s4, o4, b4⟩
          have hl4 := s4.length
          obtain ⟨gp, cp, rfl, le1, le2⟩ := own_some o4 (by rw [List.length_map, hl4, HN.out]; omega)
          rw [List.length_map, hl4, HN.out] at o4 ⊢
          have OP := Lib.hid o4
          have SP := Lib.hid s4
          have LP := Lib.hid (show w3.heap.size ≤ gp ∧ gp < w4.heap.size from ⟨le1, le2⟩)
          have OE4 := Lib.hid (Own.below OE.out b4)
          have P4 := Lib.hid (P3.out.below b4)
          have B4 := Lib.hid (B3.out.trans (b4.mono B3.out.size))
          clear o4 s4 hl4 le1 le2 b4 OE P3 B3
          go_wp2_with fail
          refine (sort_any 1 (.inl rfl) (some ⟨ge, 0, none⟩) n ce rows HN.out (by omega) w4 (rows_at OE4.out)).mono ?_
          rintro e w5 ⟨v5, oq, rfl, s5, o5, b5⟩
          have hl5 := s5.length
          obtain ⟨gq, cq, rfl, le1, le2⟩ := own_some o5 (by rw [List.length_map, hl5, HN.out]; omega)
          rw [List.length_map, hl5, HN.out] at o5 ⊢
          have OQ := Lib.hid o5
          have SQ := Lib.hid s5
          have LQ := Lib.hid (show w4.heap.size ≤ gq ∧ gq < w5.heap.size from ⟨le1, le2⟩)
          have OE5 := Lib.hid (Own.below OE4.out b5)
          have OP5 := Lib.hid (Own.below OP.out b5)
          have P5 := Lib.hid (P4.out.below b5)
          have B5 := Lib.hid (B4.out.trans (b5.mono B4.out.size))
          clear o5 s5 hl5 le1 le2 b5 OE4 OP P4 B4
          go_wp2_with fail
          refine (take_any b w.heap.size 1 16777216 y pk v rows w5 P5.out).mono ?_
          rintro e w6 ⟨v6, oa, rfl, s6, o6, p6, t6⟩
          have hl6 := s6.length
          obtain ⟨ga, ca, rfl, le1, le2⟩ := own_some o6 (by rw [List.length_map, hl6, HN.out]; omega)
          rw [List.length_map, hl6, HN.out] at o6 ⊢
          have OA := Lib.hid o6
          have SA := Lib.hid s6
          have LA := Lib.hid (show w5.heap.size ≤ ga ∧ ga < w6.heap.size from ⟨le1, le2⟩)
          have hfar : ∀ {B : Nat} {v : Value} {xs : List Row}, Own w5 B 30 7 Row.cells v xs → Own w6 B 30 7 Row.cells v xs := fun h => Own.turn h t6 fun q hq e => own_far h P5.out.head (by decide) (by rw [hq]; exact congrArg some e)
          have OE6 := Lib.hid (hfar OE5.out)
          have OP6 := Lib.hid (hfar OP5.out)
          have OQ6 := Lib.hid (hfar OQ.out)
          have P6 := Lib.hid p6
          have P6h := Lib.hid p6.head
          have B6 := Lib.hid (Turn.down B5.out (Nat.le_refl _) t6 fun q hq => by have e : q = b := hq; rw [e]; exact S1.out)
          clear hfar o6 s6 p6 t6 hl6 le1 le2 OE5 OP5 OQ P5 B5
          go_wp2_with fail
          obtain ⟨h6, hh6⟩ : ∃ z, z = w6.heap.size := ⟨_, rfl⟩
          have HH6 := Lib.hid hh6
          clear hh6
          go_loopw [88] (fun ix wr => ∃ (i : Nat) (y2 pk2 : Int) (v2 : Value), i ≤ n ∧ ix = .int .i64 i ∧ Hid (y2 ≤ 1000 * (i : Int)) ∧ Hid (BP wr b w.heap.size 1 16777216 y2 pk2 v2 (rows.take i)) ∧ Hid (∀ q, v2.ownBlock = some q → h6 ≤ q) ∧ Hid (Turn (fun q => q = b ∨ h6 ≤ q) w6 wr)) (fun ix _ => n - (intOf ix).toNat)
          case atStart => exact ⟨0, 0, pk, _, by omega, rfl, Lib.hid (by omega), P6, Lib.hid (fun q hq => by cases hq), Lib.hid (Turn.refl _ _)⟩
          case round =>
            clear P6
            obtain ⟨i, y2, pk2, v2, hi, rfl, HY2, HP2, HV2, HT2⟩ := hrel
            have HB := Lib.hid (Turn.down B6.out (Nat.le_refl _) HT2.out fun q hq => by
              rcases hq with rfl | hq
              · exact S1.out
              · have := B6.out.size; have := HH6.out; omega)
            by_cases hlt : i < n
            · obtain ⟨x, hx⟩ : ∃ x, rows[i]? = some x := ⟨_, List.getElem?_eq_getElem (by rw [HN.out]; exact hlt)⟩
              obtain ⟨b0, off, rfl, hb0, hc⟩ := (HR.out.below HB.out).at hx
              have htk : rows.take (i + 1) = rows.take i ++ [x] := by rw [List.take_add_one, hx]; rfl
              have hxm := List.mem_of_getElem? hx
              obtain ⟨x0, x1, x2, x3, x4, x5, x6⟩ := x
              have HTK := Lib.hid htk
              have HXM := Lib.hid hxm
              have k0 := hc 0 (by omega)
              have k1 := hc 1 (by omega)
              have k2 := hc 2 (by omega)
              have k3 := hc 3 (by omega)
              have k4 := hc 4 (by omega)
              have k5 := hc 5 (by omega)
              have k6 := hc 6 (by omega)
              simp only [Row.cells, List.getElem?_cons_zero, List.getElem?_cons_succ, Nat.add_zero] at k0 k1 k2 k3 k4 k5 k6
              have hi0 : (0 : Int) ≤ (i : Int) := by omega
              have hi1 : (i : Int) < (n : Int) := by omega
              have hba := (Below.refl wr.heap.size wr).alloc (Nat.le_refl _) (.cells #[.int .i64 x0, .int .i64 x1, .int .i64 x2, .int .i64 x3, .int .i64 x4, .int .i64 x5, .string x6] 30)
              have HPA := Lib.hid (HP2.out.below hba)
              have HBA := Lib.hid (HB.out.trans (hba.mono HB.out.size))
              have HTA := Lib.hid (HT2.out.alloc (.cells #[.int .i64 x0, .int .i64 x1, .int .i64 x2, .int .i64 x3, .int .i64 x4, .int .i64 x5, .string x6] 30))
              clear hc hx htk hba hxm
              go_wp2_with fail
              refine (add_ok b w.heap.size 1 16777216 y2 pk2 v2 (rows.take i) ⟨x0, x1, x2, x3, x4, x5, x6⟩ _ HPA.out HBA.out.size (HOK.out _ HXM.out) (by have := HSZ.out _ HXM.out; omega) (by have := HSZ.out _ HXM.out; have := HY2.out; omega)).mono ?_
              rintro e w7 ⟨v3, pk3, rfl, p7, hv7, t7⟩
              rw [← HTK.out] at p7
              have P7 := Lib.hid p7
              have T7 := Lib.hid (HTA.out.trans (t7.mono (S' := fun q => q = b ∨ h6 ≤ q) fun q _ hq => hq.imp id fun h => HV2.out q h))
              have V7 := Lib.hid (fun q (hq : v3.ownBlock = some q) => (show h6 ≤ q by
                rcases hv7 q hq with h | h
                · exact HV2.out q h
                · have := HTA.out.size; have := HH6.out; omega))
              have HY7 := Lib.hid (show y2 + sizeF ⟨x0, x1, x2, x3, x4, x5, x6⟩ ≤ 1000 * ((i + 1 : Nat) : Int) by have := HSZ.out _ HXM.out; have := HY2.out; omega)
              clear p7 t7 hv7 k0 k1 k2 k3 k4 k5 k6 HP2 HB HPA HBA HT2 HTA
              go_wp2_with fail
              exact ⟨⟨i + 1, _, _, _, by omega, rfl, HY7, P7, V7, T7⟩, by show n - ((i : Int) + 1).toNat < n - (i : Int).toNat; omega⟩
            · obtain rfl : n = i := by omega
              have hall : rows.take n = rows := List.take_of_length_le (by rw [HN.out]; exact Nat.le_refl _)
              rw [hall] at HP2
              clear hall hlt hi
              obtain ⟨W7, hW7⟩ : ∃ z, z = wr := ⟨_, rfl⟩
              subst hW7
              have hfar : ∀ (B g c : Nat) (xs : List Row), g < h6 → Own w6 B 30 7 Row.cells (.slice (some ⟨g, 0, none⟩) n c) xs → Own W7 B 30 7 Row.cells (.slice (some ⟨g, 0, none⟩) n c) xs := fun B g c xs hg h => Own.turn h HT2.out fun q hq e => by
                have eq : g = q := by simpa [Value.ownBlock] using hq
                subst eq
                rcases e with e | e
                · exact own_far h P6h.out (by decide) (by rw [← e]; rfl)
                · omega
              have OE7 := Lib.hid (hfar _ _ _ _ (by have := LE.out; have := LP.out; have := LQ.out; have := LA.out; have := HH6.out; omega) OE6.out)
              have OP7 := Lib.hid (hfar _ _ _ _ (by have := LE.out; have := LP.out; have := LQ.out; have := LA.out; have := HH6.out; omega) OP6.out)
              have OQ7 := Lib.hid (hfar _ _ _ _ (by have := LE.out; have := LP.out; have := LQ.out; have := LA.out; have := HH6.out; omega) OQ6.out)
              have OA7 := Lib.hid (hfar _ _ _ _ (by have := LA.out; have := HH6.out; omega) OA.out)
              have S7 := Lib.hid HT2.out.size
              clear hfar OE6 OP6 OQ6 OA HT2
              go_wp2_with fail
              refine (take_any b w.heap.size 1 16777216 y2 pk2 v2 rows W7 HP2.out).mono ?_
              rintro e w8 ⟨v8, oc, rfl, s8, o8, p8, t8⟩
              have hl8 := s8.length
              obtain ⟨gc, cc, rfl, le1, le2⟩ := own_some o8 (by rw [List.length_map, hl8, HN.out]; omega)
              rw [List.length_map, hl8, HN.out] at o8 ⊢
              have OC := Lib.hid o8
              have SC := Lib.hid s8
              have LC := Lib.hid (show W7.heap.size ≤ gc ∧ gc < w8.heap.size from ⟨le1, le2⟩)
              have hfar : ∀ {B : Nat} {v : Value} {xs : List Row}, Own W7 B 30 7 Row.cells v xs → Own w8 B 30 7 Row.cells v xs := fun h => Own.turn h t8 fun q hq e => own_far h HP2.out.head (by decide) (by rw [hq]; exact congrArg some e)
              have OE8 := Lib.hid (hfar OE7.out)
              have OP8 := Lib.hid (hfar OP7.out)
              have OQ8 := Lib.hid (hfar OQ7.out)
              have OA8 := Lib.hid (hfar OA7.out)
              have B8 := Lib.hid (Turn.down HB.out (Nat.le_refl _) t8 fun q hq => by have e : q = b := hq; rw [e]; exact S1.out)
              clear hfar o8 s8 p8 t8 hl8 le1 le2 OE7 OP7 OQ7 OA7 HP2 HB P6h B6
              go_wp2_with fail
              refine (plains_any A n cap rows w8 HN.out (by omega) (HR.out.below B8.out)).mono ?_
              rintro e w9 ⟨v9, rfl, o9, b9⟩
              obtain ⟨A9, c9, rfl⟩ := own_forms o9
              have hbig := Own.big o9
              rw [HN.out] at o9 hbig ⊢
              have HBIG := Lib.hid hbig
              have OW := Lib.hid o9
              have B9 := Lib.hid (B8.out.trans (b9.mono B8.out.size))
              have BB := Lib.hid b9
              clear o9 b9 hbig
              go_wp2_with fail
              refine (refsorted_any 1 (.inl rfl) n A9 c9 rows w9 HN.out (by omega) (Own.rd OW.out Row.cells_length) (fun e => by
                rcases HBIG.out.2.2.2 with ⟨-, -, h⟩ | ⟨g, h⟩
                · exact h
                · rw [e] at h; cases h) HBIG.out.2.1 HBIG.out.2.2.1).mono ?_
              rintro e w10 ⟨A10, c10, ow, rfl, s10, o10, b10⟩
              have SW := Lib.hid s10
              have OX := Lib.hid o10
              have BC := Lib.hid (BB.out.trans (b10.mono BB.out.size))
              have B10 := Lib.hid (B9.out.trans (b10.mono B9.out.size))
              have HRL := Lib.hid (show rows.length < 16777216 by rw [HN.out]; omega)
              clear s10 o10 b10 OW BB B9 HBIG
              go_wp2_with fail
              refine (same_forms (Own.below OP8.out BC.out) OX.out SP.out SW.out (.inl rfl) HRL.out).mono ?_
              rintro e w11 ⟨rfl, b11⟩
              have BD := Lib.hid (BC.out.trans (b11.mono BC.out.size))
              have OX11 := Lib.hid (Own.below OX.out b11)
              have B11 := Lib.hid (B10.out.trans (b11.mono B10.out.size))
              clear b11 BC OX B10
              go_wp2_with fail
              refine (same_forms (Own.below OQ8.out BD.out) OX11.out SQ.out SW.out (.inl rfl) HRL.out).mono ?_
              rintro e w12 ⟨rfl, b12⟩
              have BE := Lib.hid (BD.out.trans (b12.mono BD.out.size))
              have OX12 := Lib.hid (Own.below OX11.out b12)
              have B12 := Lib.hid (B11.out.trans (b12.mono B11.out.size))
              clear b12 BD OX11 B11
              go_wp2_with fail
              refine (same_forms (Own.below OA8.out BE.out) OX12.out SA.out SW.out (.inl rfl) HRL.out).mono ?_
              rintro e w13 ⟨rfl, b13⟩
              have BF := Lib.hid (BE.out.trans (b13.mono BE.out.size))
              have OX13 := Lib.hid (Own.below OX12.out b13)
              have B13 := Lib.hid (B12.out.trans (b13.mono B12.out.size))
              clear b13 BE OX12 B12
              go_wp2_with fail
              refine (same_forms (Own.below OC.out BF.out) OX13.out SC.out SW.out (.inl rfl) HRL.out).mono ?_
              rintro e w14 ⟨rfl, b14⟩
              have BG := Lib.hid (BF.out.trans (b14.mono BF.out.size))
              have B14 := Lib.hid (B13.out.trans (b14.mono B13.out.size))
              clear b14 BF OX13 B13
              go_wp2_with fail
              have hba := (Below.refl w14.heap.size w14).alloc (Nat.le_refl _) (.cells #[.slice (some ⟨gp, 0, none⟩) n cp, .slice (some ⟨gq, 0, none⟩) n cq, .slice (some ⟨ga, 0, none⟩) n ca, .slice (some ⟨gc, 0, none⟩) n cc, .slice (some ⟨ge, 0, none⟩) n ce] 31)
              have BH := BG.out.trans (hba.mono BG.out.size)
              have HMK := Lib.hid (marks_five (Own.mono (Own.below OP8.out BH) (Nat.zero_le _)) (Own.mono (Own.below OQ8.out BH) (Nat.zero_le _)) (Own.mono (Own.below OA8.out BH) (Nat.zero_le _)) (Own.mono (Own.below OC.out BH) (Nat.zero_le _)) (Own.mono (Own.below OE8.out BH) (Nat.zero_le _))
                (by have := LE.out; have := LP.out; have := LQ.out; have := LA.out; have := LC.out; have := S7.out; have := HH6.out; omega))
              have HRW := Lib.hid (show RowAt (w14.alloc (.cells #[.slice (some ⟨gp, 0, none⟩) n cp, .slice (some ⟨gq, 0, none⟩) n cq, .slice (some ⟨ga, 0, none⟩) n ca, .slice (some ⟨gc, 0, none⟩) n cc, .slice (some ⟨ge, 0, none⟩) n ce] 31)) w14.heap.size 31 (fiveC [gp, gq, ga, gc, ge] [cp, cq, ca, cc, ce] n) from RowAt.new w14 31 [.slice (some ⟨gp, 0, none⟩) n cp, .slice (some ⟨gq, 0, none⟩) n cq, .slice (some ⟨ga, 0, none⟩) n ca, .slice (some ⟨gc, 0, none⟩) n cc, .slice (some ⟨ge, 0, none⟩) n ce])
              have B15 := Lib.hid (B14.out.trans (hba.mono B14.out.size))
              clear hba BH OP8 OQ8 OA8 OC OE8 B14 BG
              obtain ⟨gs, hgs⟩ : ∃ z, z = [gp, gq, ga, gc, ge] := ⟨_, rfl⟩
              obtain ⟨cs, hcs⟩ : ∃ z, z = [cp, cq, ca, cc, ce] := ⟨_, rfl⟩
              obtain ⟨XS, hXS⟩ : ∃ z, z = [op.map Nm.row, oq.map Nm.row, oa.map Nm.row, oc.map Nm.row, rows] := ⟨_, rfl⟩
              rw [← hgs, ← hcs] at HMK HRW
              rw [← hXS] at HMK
              have HGL := Lib.hid (show gs.length = 5 ∧ cs.length = 5 ∧ XS.length = 5 by rw [hgs, hcs, hXS]; exact ⟨rfl, rfl, rfl⟩)
              have HGW := Lib.hid (show ∀ g ∈ gs, W2.heap.size ≤ g by
                rw [hgs]
                have := LE.out; have := LP.out; have := LQ.out; have := LA.out; have := LC.out; have := S7.out; have := HH6.out
                intro g hg
                simp at hg
                omega)
              clear hgs hcs hXS
              obtain ⟨gl, hgl⟩ : ∃ z, z = w14.heap.size := ⟨_, rfl⟩
              rw [← hgl] at HRW ⊢
              clear hgl
              clear LE LP LQ LA LC S7 HH6 SP SQ SA SC SW S1 HOK HSZ
              go_loopw [132] (fun ix wq => ∃ (i : Nat) (xss : List (List Row)), i ≤ 5 ∧ ix = .int .i64 i ∧ Hid (Marks wq gs cs n xss) ∧ Hid (xss.length = 5 ∧ ∀ (t : Nat) (xs : List Row), t < i → xss[t]? = some xs → ∀ x ∈ xs, x.kind = 10 + (t : Int)) ∧ Hid (RowAt wq gl 31 (fiveC gs cs n)) ∧ Hid (Below w.heap.size w wq)) (fun ix _ => 5 - (intOf ix).toNat)
              case atStart => exact ⟨0, XS, by omega, rfl, HMK, Lib.hid ⟨HGL.out.2.2, fun t xs ht => by omega⟩, HRW, B15⟩
              case round =>
                clear HMK HRW B15
                obtain ⟨i, xss, hi, rfl, HM, HK, HRW, HB⟩ := hrel
                by_cases hlt : i < 5
                · obtain ⟨g, hg⟩ : ∃ g, gs[i]? = some g := ⟨_, List.getElem?_eq_getElem (by rw [HGL.out.1]; exact hlt)⟩
                  obtain ⟨c, hc⟩ : ∃ c, cs[i]? = some c := ⟨_, List.getElem?_eq_getElem (by rw [HGL.out.2.1]; exact hlt)⟩
                  obtain ⟨xs, hxs⟩ : ∃ xs, xss[i]? = some xs := ⟨_, List.getElem?_eq_getElem (by rw [HK.out.1]; exact hlt)⟩
                  have q0 := HRW.out.cell i
                  rw [five_at hg hc] at q0
                  have HG := Lib.hid hg
                  have HC := Lib.hid hc
                  have HX0 := Lib.hid hxs
                  have hi0 : (0 : Int) ≤ (i : Int) := by omega
                  have hi1 : (i : Int) < 5 := by omega
                  clear hg hc hxs
                  go_wp2_with fail
                  clear q0
                  go_loopw [139] (fun kx wz => ∃ (k : Nat) (xss2 : List (List Row)) (xs2 : List Row), k ≤ n ∧ kx = .int .i64 k ∧ Hid (Marks wz gs cs n xss2) ∧ Hid (xss2[i]? = some xs2 ∧ xss2.length = 5 ∧ (∀ (t : Nat) (xs : List Row), t < i → xss2[t]? = some xs → ∀ x ∈ xs, x.kind = 10 + (t : Int)) ∧ ∀ (s : Nat) (x : Row), s < k → xs2[s]? = some x → x.kind = 10 + (i : Int)) ∧ Hid (RowAt wz gl 31 (fiveC gs cs n)) ∧ Hid (Below w.heap.size w wz)) (fun kx _ => n - (intOf kx).toNat)
                  case atStart => exact ⟨0, xss, xs, by omega, rfl, HM, Lib.hid ⟨HX0.out, HK.out.1, HK.out.2, fun s x hs => by omega⟩, HRW, HB⟩
                  case round =>
                    clear HM HK HRW HB HX0
                    obtain ⟨k, xss2, xs2, hk, rfl, HM, HK, HRW, HB⟩ := hrel
                    have hown := HM.out.own i g c xs2 HG.out HC.out HK.out.1
                    have hlen := (Own.big hown).1
                    have HLN := Lib.hid hlen
                    by_cases hlt2 : k < n
                    · obtain ⟨g1, x1, e1, hx1, hcc, hff, hlt1⟩ := Own.at Row.cells_length hown (i := k) (by omega)
                      injection e1 with e1
                      injection e1 with e1
                      subst e1
                      have q0 := hcc 0 (by omega)
                      have q1 := hcc 1 (by omega)
                      have q2 := hcc 2 (by omega)
                      have q3 := hcc 3 (by omega)
                      have q4 := hcc 4 (by omega)
                      have q5 := hcc 5 (by omega)
                      have q6 := hcc 6 (by omega)
                      simp only [Row.cells, List.getElem?_cons_zero, List.getElem?_cons_succ, Nat.add_zero] at q0 q1 q2 q3 q4 q5 q6
                      have hk0 : (0 : Int) ≤ (k : Int) := by omega
                      have hk1 : (k : Int) < (n : Int) := by omega
                      have HMP := Lib.hid (HM.out.put HG.out HC.out HK.out.1 (k := k) (by omega) (mkR (10 + (i : Int))))
                      have HRP := Lib.hid (HRW.out.turn (Turn.wset (S := fun q => q = g) (.inl rfl) (mkR (10 + (i : Int))).cells (k * 7) (Turn.refl _ _)) fun e => own_far hown HRW.out (by decide) (by rw [e]; rfl))
                      have HBP := Lib.hid (Turn.down HB.out (Nat.le_refl _) (Turn.wset (S := fun q => q = g) (.inl rfl) (mkR (10 + (i : Int))).cells (k * 7) (Turn.refl _ _)) fun q hq => by
                        have e : q = g := hq
                        rw [e]
                        exact Nat.le_trans HLW.out (HGW.out g (List.mem_of_getElem? HG.out)))
                      have HKP := Lib.hid (marks_step HK.out.1 HK.out.2.1 HK.out.2.2.1 HK.out.2.2.2 (by rw [← HLN.out]; exact hlt2) (mkR (10 + (i : Int))) rfl)
                      clear hcc hown hlen hx1
                      go_wp2_with fail
                      exact ⟨⟨k + 1, _, _, by omega, rfl, HMP, HKP, HRP, HBP⟩, by show n - ((k : Int) + 1).toNat < n - (k : Int).toNat; omega⟩
                    · obtain rfl : n = k := by omega
                      have HKN := Lib.hid (show xss2.length = 5 ∧ ∀ (t : Nat) (xs : List Row), t < i + 1 → xss2[t]? = some xs → ∀ x ∈ xs, x.kind = 10 + (t : Int) from ⟨HK.out.2.1, marks_row HK.out.1 HK.out.2.2.1 HK.out.2.2.2 HLN.out⟩)
                      clear hown hlen
                      go_wp2_with fail
                      exact ⟨⟨i + 1, xss2, by omega, rfl, HM, HKN, HRW, HB⟩, by show 5 - ((i : Int) + 1).toNat < 5 - (i : Int).toNat; omega⟩
                · obtain rfl : 5 = i := by omega
                  clear hlt hi
                  obtain ⟨W3, hW3⟩ : ∃ z, z = wr := ⟨_, rfl⟩
                  subst hW3
                  have HKE := Lib.hid (show Kept W3 gs cs n xss 0 from ⟨fun t g c xs _ a2 a3 a4 => HM.out.own t g c xs a2 a3 a4, fun t g xs a1 a2 => by
                    obtain ⟨c, hc⟩ : ∃ c, cs[t]? = some c := ⟨_, List.getElem?_eq_getElem (by rw [HGL.out.2.1, ← HGL.out.1]; exact (List.getElem?_eq_some_iff.1 a1).1)⟩
                    exact Own.rd (HM.out.own t g c xs a1 hc a2) Row.cells_length, fun t g a1 => by
                    have ht := (List.getElem?_eq_some_iff.1 a1).1
                    obtain ⟨c, hc⟩ : ∃ c, cs[t]? = some c := ⟨_, List.getElem?_eq_getElem (by rw [HGL.out.2.1, ← HGL.out.1]; exact ht)⟩
                    obtain ⟨xs, hx⟩ : ∃ xs, xss[t]? = some xs := ⟨_, List.getElem?_eq_getElem (by rw [HK.out.1, ← HGL.out.1]; exact ht)⟩
                    exact (Own.base (HM.out.own t g c xs a1 hc hx) g rfl).2⟩)
                  have HND := Lib.hid HM.out.nd
                  have HLX := Lib.hid (show ∀ (t : Nat) (xs : List Row), xss[t]? = some xs → xs.length = n from fun t xs hx => by
                    have ht := (List.getElem?_eq_some_iff.1 hx).1
                    obtain ⟨c, hc⟩ : ∃ c, cs[t]? = some c := ⟨_, List.getElem?_eq_getElem (by rw [HGL.out.2.1, ← HK.out.1]; exact ht)⟩
                    obtain ⟨g, hg⟩ : ∃ g, gs[t]? = some g := ⟨_, List.getElem?_eq_getElem (by rw [HGL.out.1, ← HK.out.1]; exact ht)⟩
                    exact (Own.big (HM.out.own t g c xs hg hc hx)).1.symm)
                  clear HM
                  go_wp2_with fail
                  go_loopw [152] (fun ix wq => ∃ (i : Nat), i ≤ 5 ∧ ix = .int .i64 i ∧ Hid (Kept wq gs cs n xss i) ∧ Hid (RowAt wq gl 31 (fiveC gs cs n)) ∧ Hid (Below w.heap.size w wq)) (fun ix _ => 5 - (intOf ix).toNat)
                  case atStart => exact ⟨0, by omega, rfl, HKE, HRW, HB⟩
                  case round =>
                    clear HKE HRW HB
                    obtain ⟨i, hi, rfl, HKE, HRW, HB⟩ := hrel
                    by_cases hlt : i < 5
                    · obtain ⟨g, hg⟩ : ∃ g, gs[i]? = some g := ⟨_, List.getElem?_eq_getElem (by rw [HGL.out.1]; exact hlt)⟩
                      obtain ⟨c, hc⟩ : ∃ c, cs[i]? = some c := ⟨_, List.getElem?_eq_getElem (by rw [HGL.out.2.1]; exact hlt)⟩
                      obtain ⟨xs, hxs⟩ : ∃ xs, xss[i]? = some xs := ⟨_, List.getElem?_eq_getElem (by rw [HK.out.1]; exact hlt)⟩
                      have q0 := HRW.out.cell i
                      rw [five_at hg hc] at q0
                      have HG := Lib.hid hg
                      have HX0 := Lib.hid hxs
                      have HO0 := Lib.hid (HKE.out.own i g c xs (Nat.le_refl _) hg hc hxs)
                      have HKE0 := Lib.hid HKE.out.next
                      have HLN := Lib.hid (Own.big HO0.out).1
                      have HGE := Lib.hid (Nat.le_trans HLW.out (HGW.out g (List.mem_of_getElem? hg)))
                      have hi0 : (0 : Int) ≤ (i : Int) := by omega
                      have hi1 : (i : Int) < 5 := by omega
                      clear hg hc hxs HKE
                      go_wp2_with fail
                      clear q0
                      go_loopw [24, 25] (fun l kx wz => ∃ (k m g' c' : Nat) (zs : List Row), k ≤ 40 ∧ kx = .int .i64 k ∧ l = .slice (some ⟨g', 0, none⟩) m c' ∧ Hid (m = n + k ∧ m = zs.length) ∧ Hid (Own wz 0 30 7 Row.cells (.slice (some ⟨g', 0, none⟩) m c') zs) ∧ Hid ((g' = g ∧ ∃ ys, zs = xs ++ ys) ∨ ∀ t : Nat, gs[t]? ≠ some g') ∧ Hid (w.heap.size ≤ g') ∧ Hid (Kept wz gs cs n xss (i + 1)) ∧ Hid (RowAt wz gl 31 (fiveC gs cs n)) ∧ Hid (Below w.heap.size w wz)) (fun _ kx _ => 40 - (intOf kx).toNat)
                      case atStart => exact ⟨0, n, g, c, xs, by omega, rfl, rfl, Lib.hid ⟨rfl, HLN.out⟩, HO0, Lib.hid (.inl ⟨rfl, [], by simp⟩), HGE, HKE0, HRW, HB⟩
                      case round =>
                        clear HO0 HKE0 HRW HB HLN
                        obtain ⟨k, m, g', c', zs, hk, rfl, rfl, HMN, HO, HCA, HGE2, HKE, HRW, HB⟩ := hrel
                        by_cases hlt2 : k < 40
                        · have hk0 : (0 : Int) ≤ (k : Int) := by omega
                          have hk1 : (k : Int) < 40 := by omega
                          have hba := (Below.refl wr.heap.size wr).alloc (Nat.le_refl _) (.cells (mkR (90 + (i : Int))).cells.toArray 30)
                          have HKA := Lib.hid (HKE.out.below hba)
                          have HOA := Lib.hid (Own.below HO.out hba)
                          have HRA := Lib.hid (HRW.out.below hba)
                          have HBA := Lib.hid (HB.out.trans (hba.mono HB.out.size))
                          have HSL := Lib.hid (show zs.length + 1 ≤ maxLen ∧ (zs.length + 1) * 64 ≤ 140737488355328 by have := HMN.out; unfold maxLen; omega)
                          clear hba HO HRW HB HKE
                          go_wp2_with (at_builtin; go_loud (refine keep_list Row.cells 30 31 30 (.agg Row.zero.cells.toArray) 7 64 Try.underlying31 (by kernel_rfl) rfl (by decide) Row.cells_length row_one _ _ (by rfl) (by rfl) 0 (.slice (some ⟨g', 0, none⟩) m c') zs (mkR (90 + (i : Int))) (by rfl) HOA.out wr.heap.size 1 (by rfl) (RowAt.new wr 30 (mkR (90 + (i : Int))).cells) HSL.out.1 HSL.out.2 (Nat.zero_le _) ?_); intro g8 cap8 w8 o8 h8 l8; have O8 := Lib.hid o8; have H8 := Lib.hid h8; clear o8 h8 l8)
                          have HNEW := Lib.hid (kept_append HKA.out HND.out HG.out HX0.out HOA.out HCA.out HGE2.out HRA.out HBA.out O8.out H8.out)
                          refine ⟨⟨_, _, _, _, _, _, _, _, _, _, _, _, ?_, rfl⟩, ?_⟩
                          · exact ⟨k + 1, zs.length + 1, g8, cap8, _, by omega, rfl, rfl, Lib.hid ⟨by have := HMN.out; omega, by rw [List.length_append]; rfl⟩, O8, Lib.hid HNEW.out.1, Lib.hid HNEW.out.2.1, Lib.hid HNEW.out.2.2.1, Lib.hid HNEW.out.2.2.2.1, Lib.hid HNEW.out.2.2.2.2⟩
                          · show 40 - ((k : Int) + 1).toNat < 40 - (k : Int).toNat
                            omega
                        · obtain rfl : 40 = k := by omega
                          go_wp2_with fail
                          exact ⟨⟨i + 1, by omega, rfl, HKE, HRW, HB⟩, by show 5 - ((i : Int) + 1).toNat < 5 - (i : Int).toNat; omega⟩
                    · obtain rfl : 5 = i := by omega
                      clear hlt hi
                      obtain ⟨W4, hW4⟩ : ∃ z, z = wr := ⟨_, rfl⟩
                      subst hW4
                      go_wp2_with fail
                      go_loopw [170] (fun ix wq => ∃ (i : Nat), i ≤ 5 ∧ ix = .int .i64 i ∧ Hid (Below W4.heap.size W4 wq)) (fun ix _ => 5 - (intOf ix).toNat)
                      case atStart => exact ⟨0, by omega, rfl, Lib.hid (Below.refl _ _)⟩
                      case round =>
                        obtain ⟨i, hi, rfl, HBW⟩ := hrel
                        by_cases hlt : i < 5
                        · obtain ⟨g, hg⟩ : ∃ g, gs[i]? = some g := ⟨_, List.getElem?_eq_getElem (by rw [HGL.out.1]; exact hlt)⟩
                          obtain ⟨c, hc⟩ : ∃ c, cs[i]? = some c := ⟨_, List.getElem?_eq_getElem (by rw [HGL.out.2.1]; exact hlt)⟩
                          obtain ⟨xs, hxs⟩ : ∃ xs, xss[i]? = some xs := ⟨_, List.getElem?_eq_getElem (by rw [HK.out.1]; exact hlt)⟩
                          have q0 := (HRW.out.below HBW.out).cell i
                          rw [five_at hg hc] at q0
                          have HRD := Lib.hid (HKE.out.rd i g xs hg hxs)
                          have HKD := Lib.hid (HK.out.2 i xs hlt hxs)
                          have HXL := Lib.hid (HLX.out i xs hxs)
                          have hi0 : (0 : Int) ≤ (i : Int) := by omega
                          have hi1 : (i : Int) < 5 := by omega
                          clear hg hc hxs
                          go_wp2_with fail
                          clear q0
                          go_loopw [177] (fun kx wz => ∃ (k : Nat), k ≤ n ∧ kx = .int .i64 k ∧ Hid (Below W4.heap.size W4 wz)) (fun kx _ => n - (intOf kx).toNat)
                          case atStart => exact ⟨0, by omega, rfl, HBW⟩
                          case round =>
                            clear HBW
                            obtain ⟨k, hk, rfl, HBW⟩ := hrel
                            by_cases hlt2 : k < n
                            · obtain ⟨x, hx⟩ : ∃ x, xs[k]? = some x := ⟨_, List.getElem?_eq_getElem (by rw [HXL.out]; exact hlt2)⟩
                              obtain ⟨b1, off1, e1, hb1, hcc⟩ := (HRD.out.below HBW.out).at hx
                              injection e1 with e1
                              injection e1 with e1 e2
                              subst e1 e2
                              have q0 := hcc 0 (by omega)
                              simp only [Row.cells, List.getElem?_cons_zero, Nat.add_zero, Nat.zero_add] at q0
                              rw [HKD.out x (List.mem_of_getElem? hx)] at q0
                              have hk0 : (0 : Int) ≤ (k : Int) := by omega
                              have hk1 : (k : Int) < (n : Int) := by omega
                              clear hcc hx
                              go_wp2_with fail
                              exact ⟨⟨k + 1, by omega, rfl, HBW⟩, by show n - ((k : Int) + 1).toNat < n - (k : Int).toNat; omega⟩
                            · obtain rfl : n = k := by omega
                              go_wp2_with fail
                              exact ⟨⟨i + 1, by omega, rfl, HBW⟩, by show 5 - ((i : Int) + 1).toNat < 5 - (i : Int).toNat; omega⟩
                        · obtain rfl : 5 = i := by omega
                          go_wp2_with fail
                          go_ret
                          exact ⟨rfl, HB.out.trans (HBW.out.mono HB.out.size)⟩

end Go.Proofs.Ytmmfobbalhpomaa
