/- What the answers of losers are made of: the check of the list that is handed in. -/
import Derived.Test.YtgcfpepaapdjoaaMJ
import Derived.Test.YtgcfpepaapdjoaaDry
namespace Go.Proofs.Ytgcfpepaapdjoaa
set_option linter.unusedVariables false
set_option linter.unusedSimpArgs false
open Go.RowKit

def r71 : Row := ⟨71, 0, 0, 0, 0, 0, ByteArray.empty⟩
def r72 : Row := ⟨72, 0, 0, 0, 0, 0, ByteArray.empty⟩
/-- The first i are marked. -/
def markF {α : Type} (x : α) (i : Nat) (l : List α) : List α := List.replicate i x ++ l.drop i
theorem markF_zero {α : Type} (x : α) (l : List α) : markF x 0 l = l := by simp [markF]
theorem markF_length {α : Type} (x : α) {i : Nat} {l : List α} (h : i ≤ l.length) : (markF x i l).length = l.length := by simp [markF]; omega
theorem markF_set {α : Type} (x : α) {i : Nat} {l : List α} (h : i < l.length) : (markF x i l).set i x = markF x (i + 1) l := by
  unfold markF
  rw [List.set_append_right _ _ (by simp), List.length_replicate, Nat.sub_self, List.drop_eq_getElem_cons h, List.set_cons_zero, List.replicate_succ', List.append_assoc]
  rfl
theorem markF_all {α : Type} (x : α) (l : List α) : markF x l.length l = List.replicate l.length x := by simp [markF]
/-- The cells that the check of one row reads. -/
def Seen (b off i : Nat) (x0 x1 x2 x3 x4 x5 : Int) (x6 : ByteArray) (w : World) : Prop :=
  w.cell? ⟨b, off + i * 7, none⟩ = some (.int .i64 x0) ∧ w.cell? ⟨b, off + i * 7 + 1, none⟩ = some (.int .i64 x1) ∧ w.cell? ⟨b, off + i * 7 + 2, none⟩ = some (.int .i64 x2) ∧ w.cell? ⟨b, off + i * 7 + 3, none⟩ = some (.int .i64 x3) ∧ w.cell? ⟨b, off + i * 7 + 4, none⟩ = some (.int .i64 x4) ∧ w.cell? ⟨b, off + i * 7 + 5, none⟩ = some (.int .i64 x5) ∧ w.cell? ⟨b, off + i * 7 + 6, none⟩ = some (.string x6)
theorem errAt_iff {o : Int} {l : List Row} {i : Nat} (h1 : (rowAt' l i).ok = true) (h2 : 0 < i → before o (rowAt' l i) (rowAt' l (i - 1)) = false) : errAt o l i = 0 := by
  unfold errAt
  rw [if_neg (by rw [h1]; decide), if_neg]
  rintro ⟨h3, h4⟩
  rw [h2 h3] at h4
  cases h4

section
variable {P : Program} {ops : Array Oper} {Q : Exit → Act → World → Prop} {md : Region.Mode}
theorem take_in {i d : Nat} {oi : Oper} {v : Value} {fuel : Nat} {listed : Array Bool} {a : Act} {w : World} (hi : ops[i]? = some oi) (hd : oi.dst = some d)
    (hs : Region.noSelect ops = true) (hf : Region.free md ops listed i = true) (hr : (Region.ready md ops listed).contains i = true)
    (hQ : ∀ c (a : Act) w, Q (.panic c) (a.put (some d) v) w → Q (.panic c) a w) (hw : Region.wanted oi (yielded ops a.tmps) = true) (hy : ∀ w, (execOp a.eval oi).run P w = .ok (.value v) w)
    (h : wpAny P md ops Q fuel (listed.setIfInBounds i true) { tmps := a.tmps.setIfInBounds d v, defers := a.defers } w) : wpAny P md ops Q (fuel + 1) listed a w :=
  wpAny_take hi hs hf hr (by rw [hd]; exact hQ) (.inl ⟨hw, hy⟩) (by rw [hd]; exact h)
theorem take_out {i d : Nat} {oi : Oper} {fuel : Nat} {listed : Array Bool} {a : Act} {w : World} (hi : ops[i]? = some oi) (hd : oi.dst = some d)
    (hs : Region.noSelect ops = true) (hf : Region.free md ops listed i = true) (hr : (Region.ready md ops listed).contains i = true)
    (hQ : ∀ c (a : Act) w, Q (.panic c) (a.put (some d) undef) w → Q (.panic c) a w) (hw : Region.wanted oi (yielded ops a.tmps) = false)
    (h : wpAny P md ops Q fuel (listed.setIfInBounds i true) { tmps := a.tmps.setIfInBounds d undef, defers := a.defers } w) : wpAny P md ops Q (fuel + 1) listed a w :=
  wpAny_take hi hs hf hr (by rw [hd]; exact hQ) (.inr ⟨hw, rfl⟩) (by rw [hd]; exact h)
end
/-- What is not marked. -/
structure Rest (w0 : World) (g bs bl gO gb gw N2 B5 B7 : Nat) (A3 : Option Addr) (c3 n c5 c7 : Nat) (rows : List Row) (w : World) : Prop where
  tr : Tr w g bs bl 1 (List.replicate 5 Src.zero)
  b : Own w B5 29 7 Row.cells (.slice (some ⟨gb, 0, none⟩) n c5) rows
  v : Own w B7 3 1 natCell (.slice (some ⟨gw, 0, none⟩) 5 c7) [0, 1, 2, 3, 4]
  oc : RowAt w gO 50 [.slice A3 n c3]
  cp : Own w N2 29 7 Row.cells (.slice A3 n c3) rows
  low : Below w0.heap.size w0 w
structure Lay (w0 : World) (g bs bl gO gb gw N2 B5 B7 : Nat) (A3 : Option Addr) : Prop where
  l0 : w0.heap.size ≤ gO
  l1 : g < gO
  l2 : bs < gO
  l3 : bl < gO
  l4 : ∀ k, (Value.slice A3 0 0).ownBlock = some k → k < gO
  l5 : gO < gb
  l6 : gO < gw
theorem Rest.turn {S : Nat → Prop} {w0 w w' : World} {g bs bl gO gb gw N2 B5 B7 : Nat} {A3 : Option Addr} {c3 n c5 c7 : Nat} {rows : List Row} (h : Rest w0 g bs bl gO gb gw N2 B5 B7 A3 c3 n c5 c7 rows w) (L : Lay w0 g bs bl gO gb gw N2 B5 B7 A3) (ht : Turn S w w') (hs : ∀ k, S k → gO < k ∧ k ≠ gb ∧ k ≠ gw) :
    Rest w0 g bs bl gO gb gw N2 B5 B7 A3 c3 n c5 c7 rows w' := by
  have l1 := L.l1; have l2 := L.l2; have l3 := L.l3; have l0 := L.l0
  refine ⟨h.tr.turn ht (fun e => by have := hs _ e; omega) (fun e => by have := hs _ e; omega) (fun e => by have := hs _ e; omega), h.b.turn ht fun k hk e => ?_, h.v.turn ht fun k hk e => ?_, h.oc.turn ht (fun e => by have := hs _ e; omega), h.cp.turn ht fun k hk e => ?_, h.low.trans (ht.below h.low.size fun k hk e => by have := hs _ e; omega)⟩
  · have e1 : gb = k := Option.some.inj hk
    have := hs _ e
    omega
  · have e1 : gw = k := Option.some.inj hk
    have := hs _ e
    omega
  · have hk' : (Value.slice A3 0 0).ownBlock = some k := by cases A3 <;> exact hk
    have := L.l4 k hk'
    have := hs _ e
    omega
theorem Rest.below {w0 w w' : World} {g bs bl gO gb gw N2 B5 B7 : Nat} {A3 : Option Addr} {c3 n c5 c7 : Nat} {rows : List Row} (h : Rest w0 g bs bl gO gb gw N2 B5 B7 A3 c3 n c5 c7 rows w) (hb : Below w.heap.size w w') : Rest w0 g bs bl gO gb gw N2 B5 B7 A3 c3 n c5 c7 rows w' :=
  ⟨h.tr.below hb, h.b.below hb, h.v.below hb, h.oc.below hb, h.cp.below hb, h.low.trans (hb.mono h.low.size)⟩
theorem own_some {α : Type} {w : World} {base : Nat} {e : TypeId} {size : Nat} {f : α → List Value} {v : Value} {xs : List α} (h : Own w base e size f v xs) (hx : xs ≠ []) : ∃ g c, v = .slice (some ⟨g, 0, none⟩) xs.length c ∧ base ≤ g ∧ g < w.heap.size := by
  rcases h.cases with ⟨_, h⟩ | ⟨g, cap, rest, rfl, hb, -, -, hr⟩
  · exact absurd h hx
  · exact ⟨g, cap, rfl, hb, hr.lt⟩
theorem merged_self {rows : List Row} (h : listErr 1 rows = 0) {out : List Nm} (hs : IsSorted 1 [rows].flatten out) : out.map Nm.row = rows := by
  have e : [rows].flatten = rows := by simp
  rw [e] at hs
  rw [(sorted_up (.inl rfl) (up_of h)).unique (.inl rfl) hs |>.symm]
  exact nums_rows rows
theorem chk_self {rows : List Row} (h : listErr 1 rows = 0) : chk 1 [rows] = 0 := by
  unfold chk
  exact firstI_zero fun i hi => by
    obtain rfl : i = 0 := by simpa using hi
    exact h
theorem waits5 : waitsTo (List.replicate 5 Src.zero) (List.replicate 5 Src.zero).length = [0, 1, 2, 3, 4] := by decide
attribute [local go_sem high] eqA29
set_option maxRecDepth 100000 in
set_option maxHeartbeats 32000000 in
theorem memory_walk (A : Option Addr) (n cap : Nat) (rows : List Row) (w : World) (hn : rows.length = n) (hnm : n ≤ 4611686018427387904) (H : SliceRd w A 7 Row.cells rows) (hz : A = none → cap = 0) :
    Calls Try.prog 8 #[.slice A n cap] w fun e w' => e = .returned (.bool true) ∧ Below w.heap.size w w' := by
  by_cases hout : n < 1 ∨ 60 < n
  · have HO := Lib.hid hout
    by_cases h1 : n < 1
    · obtain rfl : n = 0 := by omega
      go_enter Try.func8, Try.ntmps8
      go_wp2_with fail
      refine (anchor_any w).mono ?_
      rintro e w1 ⟨rfl, b1⟩
      go_wp2_with fail
      go_ret
      exact ⟨rfl, b1⟩
    · have h2 : (60 : Int) < (n : Int) := by omega
      have h3 : ¬ ((n : Int) < 1) := by omega
      go_enter Try.func8, Try.ntmps8
      go_wp2_with fail
      refine (anchor_any w).mono ?_
      rintro e w1 ⟨rfl, b1⟩
      go_wp2_with fail
      go_ret
      exact ⟨rfl, b1⟩
  · have h1 : 1 ≤ n := by omega
    have h2 : n ≤ 60 := by omega
    have h3 : ¬ ((n : Int) < 1) := by omega
    have h4 : ¬ ((60 : Int) < (n : Int)) := by omega
    have HN := Lib.hid hn
    have HR := Lib.hid H
    have HZ := Lib.hid hz
    clear hn H hz hout
    go_enter Try.func8, Try.ntmps8
    go_wp2_with fail
    refine (anchor_any w).mono ?_
    rintro e w1 ⟨rfl, b1⟩
    have B1 := Lib.hid b1
    clear b1
    go_wp2_with fail
    go_loopw [35] (fun ix wr => ∃ i : Nat, i ≤ n ∧ ix = .int .i64 i ∧ Hid (∀ j, j < i → errAt 1 rows j = 0) ∧ Hid (Below w.heap.size w wr)) (fun ix _ => n - (intOf ix).toNat)
    case atStart => exact ⟨0, by omega, rfl, Lib.hid (fun j hj => by omega), B1⟩
    case round =>
      clear B1
      obtain ⟨i, hi, rfl, HE, HB⟩ := hrel
      by_cases hlt : i < n
      · obtain ⟨x, hx⟩ : ∃ x, rows[i]? = some x := ⟨_, List.getElem?_eq_getElem (by rw [HN.out]; exact hlt)⟩
        have HXR := Lib.hid (show rowAt' rows i = x by unfold rowAt'; rw [List.getD_eq_getElem?_getD, hx]; rfl)
        obtain ⟨b, off, rfl, hb, x0, x1, x2, x3, x4, x5, x6⟩ := row_at (HR.out.below HB.out) hx
        have hi0 : (0 : Int) ≤ (i : Int) := by omega
        have hi1 : (i : Int) < (n : Int) := by omega
        obtain ⟨y0, y1, y2, y3, y4, y5, y6⟩ := x
        simp only at x0 x1 x2 x3 x4 x5 x6
        obtain ⟨kv, hkv⟩ : ∃ z, z = Row.ok ⟨y0, y1, y2, y3, y4, y5, y6⟩ := ⟨_, rfl⟩
        have HKV := Lib.hid hkv
        have hva := fun w => refvalid_any ⟨y0, y1, y2, y3, y4, y5, y6⟩ w
        rw [← hkv] at hva
        have HVA := Lib.hid hva
        have RX := Lib.hid (RowAt.new wr 29 [.int .i64 y0, .int .i64 y1, .int .i64 y2, .int .i64 y3, .int .i64 y4, .int .i64 y5, .string y6])
        have HB0 := Lib.hid (HB.out.alloc HB.out.size (.cells #[.int .i64 y0, .int .i64 y1, .int .i64 y2, .int .i64 y3, .int .i64 y4, .int .i64 y5, .string y6] 29))
        have KS := Lib.hid (show ∀ w', Below (wr.alloc (.cells #[.int .i64 y0, .int .i64 y1, .int .i64 y2, .int .i64 y3, .int .i64 y4, .int .i64 y5, .string y6] 29)).heap.size (wr.alloc (.cells #[.int .i64 y0, .int .i64 y1, .int .i64 y2, .int .i64 y3, .int .i64 y4, .int .i64 y5, .string y6] 29)) w' → w'.cell? ⟨wr.heap.size, 0, none⟩ = some (.int .i64 y0) ∧ w'.cell? ⟨wr.heap.size, 1, none⟩ = some (.int .i64 y1) ∧ w'.cell? ⟨wr.heap.size, 2, none⟩ = some (.int .i64 y2) ∧ w'.cell? ⟨wr.heap.size, 3, none⟩ = some (.int .i64 y3) ∧ w'.cell? ⟨wr.heap.size, 4, none⟩ = some (.int .i64 y4) ∧ w'.cell? ⟨wr.heap.size, 5, none⟩ = some (.int .i64 y5) ∧ w'.cell? ⟨wr.heap.size, 6, none⟩ = some (.string y6) from fun w' hb' => by
          have h := (RX.out.below hb').cell
          exact ⟨h 0, h 1, h 2, h 3, h 4, h 5, h 6⟩)
        have HBC := Lib.hid (show Below (wr.alloc (.cells #[.int .i64 y0, .int .i64 y1, .int .i64 y2, .int .i64 y3, .int .i64 y4, .int .i64 y5, .string y6] 29)).heap.size (wr.alloc (.cells #[.int .i64 y0, .int .i64 y1, .int .i64 y2, .int .i64 y3, .int .i64 y4, .int .i64 y5, .string y6] 29)) ((wr.alloc (.cells #[.int .i64 y0, .int .i64 y1, .int .i64 y2, .int .i64 y3, .int .i64 y4, .int .i64 y5, .string y6] 29)).drew) from (Below.refl _ _).drew)
        clear hx hkv hva
        cases kv with
        | false =>
          go_wp2_with fail
          obtain ⟨z0, z1, z2, z3, z4, z5, z6⟩ := KS.out _ HBC.out
          refine wp_region_any (by kernel_rfl) ?_
          change wpAny _ _ _ _ 19 _ _ (World.drew _)
          refine wpAny_ready (rs := [0]) (by kernel_rfl) (by simp) ?_
          refine AllReady.cons rfl (fun K hK => ?_) AllReady.nil
          go_simp
          refine hK _ _ ?_
          clear hK K
          clear z0 z1 z2 z3 z4 z5 z6
          refine wpAny_ready (rs := [1]) (by kernel_rfl) (by simp) ?_
          refine AllReady.cons rfl (fun K hK => ?_) AllReady.nil
          go_simp
          go_wp2_with fail
          refine (plain7 _ _ _ _ _ _ _ _).mono ?_
          rintro e w5 ⟨rfl, b5⟩
          have HBC := Lib.hid (HBC.out.trans (b5.mono HBC.out.size))
          clear b5
          go_wp2_with fail
          refine wpAny_ready (rs := [2]) (by kernel_rfl) (by simp) ?_
          refine AllReady.cons rfl (fun K hK => ?_) AllReady.nil
          go_simp
          go_wp2_with fail
          refine (HVA.out _).mono ?_
          rintro e w6 ⟨rfl, b6⟩
          have HBC := Lib.hid (HBC.out.trans (b6.mono HBC.out.size))
          clear b6
          go_wp2_with fail
          refine take_in (i := 3) (d := 43) (v := ?_) rfl rfl (by kernel_rfl) (by kernel_rfl) (by kernel_rfl) (fun _ _ _ h => h) (by rfl) ?_ ?_
          rotate_left
          · (intro w; go_simp; try with_reducible rfl)
          simp only [List.setIfInBounds_toArray, List.set_cons_zero, List.set_cons_succ]
          refine take_in (i := 4) (d := 44) (v := ?_) rfl rfl (by kernel_rfl) (by kernel_rfl) (by kernel_rfl) (fun _ _ _ h => h) (by rfl) ?_ ?_
          rotate_left
          · (intro w; go_simp; try with_reducible rfl)
          simp only [List.setIfInBounds_toArray, List.set_cons_zero, List.set_cons_succ]
          refine take_out (i := 5) (d := 45) rfl rfl (by kernel_rfl) (by kernel_rfl) (by kernel_rfl) (fun _ _ _ h => h) (by rfl) ?_
          simp only [List.setIfInBounds_toArray, List.set_cons_zero, List.set_cons_succ]
          refine take_out (i := 6) (d := 46) rfl rfl (by kernel_rfl) (by kernel_rfl) (by kernel_rfl) (fun _ _ _ h => h) (by rfl) ?_
          simp only [List.setIfInBounds_toArray, List.set_cons_zero, List.set_cons_succ]
          refine take_out (i := 7) (d := 47) rfl rfl (by kernel_rfl) (by kernel_rfl) (by kernel_rfl) (fun _ _ _ h => h) (by rfl) ?_
          simp only [List.setIfInBounds_toArray, List.set_cons_zero, List.set_cons_succ]
          refine take_out (i := 8) (d := 48) rfl rfl (by kernel_rfl) (by kernel_rfl) (by kernel_rfl) (fun _ _ _ h => h) (by rfl) ?_
          simp only [List.setIfInBounds_toArray, List.set_cons_zero, List.set_cons_succ]
          refine take_out (i := 9) (d := 49) rfl rfl (by kernel_rfl) (by kernel_rfl) (by kernel_rfl) (fun _ _ _ h => h) (by rfl) ?_
          simp only [List.setIfInBounds_toArray, List.set_cons_zero, List.set_cons_succ]
          refine take_out (i := 10) (d := 50) rfl rfl (by kernel_rfl) (by kernel_rfl) (by kernel_rfl) (fun _ _ _ h => h) (by rfl) ?_
          simp only [List.setIfInBounds_toArray, List.set_cons_zero, List.set_cons_succ]
          refine take_out (i := 11) (d := 51) rfl rfl (by kernel_rfl) (by kernel_rfl) (by kernel_rfl) (fun _ _ _ h => h) (by rfl) ?_
          simp only [List.setIfInBounds_toArray, List.set_cons_zero, List.set_cons_succ]
          refine take_out (i := 12) (d := 52) rfl rfl (by kernel_rfl) (by kernel_rfl) (by kernel_rfl) (fun _ _ _ h => h) (by rfl) ?_
          simp only [List.setIfInBounds_toArray, List.set_cons_zero, List.set_cons_succ]
          refine take_out (i := 13) (d := 53) rfl rfl (by kernel_rfl) (by kernel_rfl) (by kernel_rfl) (fun _ _ _ h => h) (by rfl) ?_
          simp only [List.setIfInBounds_toArray, List.set_cons_zero, List.set_cons_succ]
          refine take_out (i := 14) (d := 54) rfl rfl (by kernel_rfl) (by kernel_rfl) (by kernel_rfl) (fun _ _ _ h => h) (by rfl) ?_
          simp only [List.setIfInBounds_toArray, List.set_cons_zero, List.set_cons_succ]
          refine take_out (i := 15) (d := 55) rfl rfl (by kernel_rfl) (by kernel_rfl) (by kernel_rfl) (fun _ _ _ h => h) (by rfl) ?_
          simp only [List.setIfInBounds_toArray, List.set_cons_zero, List.set_cons_succ]
          refine take_out (i := 16) (d := 56) rfl rfl (by kernel_rfl) (by kernel_rfl) (by kernel_rfl) (fun _ _ _ h => h) (by rfl) ?_
          simp only [List.setIfInBounds_toArray, List.set_cons_zero, List.set_cons_succ]
          refine take_out (i := 17) (d := 57) rfl rfl (by kernel_rfl) (by kernel_rfl) (by kernel_rfl) (fun _ _ _ h => h) (by rfl) ?_
          simp only [List.setIfInBounds_toArray, List.set_cons_zero, List.set_cons_succ]
          refine take_in (i := 18) (d := 58) (v := ?_) rfl rfl (by kernel_rfl) (by kernel_rfl) (by kernel_rfl) (fun _ _ _ h => h) (by rfl) ?_ ?_
          rotate_left
          · (intro w; go_simp; try with_reducible rfl)
          simp only [List.setIfInBounds_toArray, List.set_cons_zero, List.set_cons_succ]
          refine wpAny_done (by kernel_rfl) ?_ _
          go_wp2_with fail
          go_ret
          exact ⟨rfl, HB0.out.trans (HBC.out.mono HB0.out.size)⟩
        | true =>
          by_cases hz : i = 0
          · have hb0 : decide (0 < i) = false := decide_eq_false (by omega)
            have hb1 : ¬ (0 : Int) < (i : Int) := by omega
            have HE1 := Lib.hid (errs_next HE.out (errAt_iff (by rw [HXR.out]; exact HKV.out.symm) (fun h => by omega)))
            clear hz
            go_wp2_with fail
            obtain ⟨z0, z1, z2, z3, z4, z5, z6⟩ := KS.out _ HBC.out
            refine wp_region_any (by kernel_rfl) ?_
            change wpAny _ _ _ _ 19 _ _ (World.drew _)
            refine wpAny_ready (rs := [0]) (by kernel_rfl) (by simp) ?_
            refine AllReady.cons rfl (fun K hK => ?_) AllReady.nil
            go_simp
            refine hK _ _ ?_
            clear hK K
            clear z0 z1 z2 z3 z4 z5 z6
            refine wpAny_ready (rs := [1]) (by kernel_rfl) (by simp) ?_
            refine AllReady.cons rfl (fun K hK => ?_) AllReady.nil
            go_simp
            go_wp2_with fail
            refine (plain7 _ _ _ _ _ _ _ _).mono ?_
            rintro e w5 ⟨rfl, b5⟩
            have HBC := Lib.hid (HBC.out.trans (b5.mono HBC.out.size))
            clear b5
            go_wp2_with fail
            refine wpAny_ready (rs := [2]) (by kernel_rfl) (by simp) ?_
            refine AllReady.cons rfl (fun K hK => ?_) AllReady.nil
            go_simp
            go_wp2_with fail
            refine (HVA.out _).mono ?_
            rintro e w6 ⟨rfl, b6⟩
            have HBC := Lib.hid (HBC.out.trans (b6.mono HBC.out.size))
            clear b6
            go_wp2_with fail
            refine take_in (i := 3) (d := 43) (v := ?_) rfl rfl (by kernel_rfl) (by kernel_rfl) (by kernel_rfl) (fun _ _ _ h => h) (by rfl) ?_ ?_
            rotate_left
            · (intro w; go_simp; try with_reducible rfl)
            simp only [List.setIfInBounds_toArray, List.set_cons_zero, List.set_cons_succ]
            refine take_in (i := 4) (d := 44) (v := ?_) rfl rfl (by kernel_rfl) (by kernel_rfl) (by kernel_rfl) (fun _ _ _ h => h) (by rfl) ?_ ?_
            rotate_left
            · (intro w; go_simp; try with_reducible rfl)
            simp only [List.setIfInBounds_toArray, List.set_cons_zero, List.set_cons_succ]
            refine take_in (i := 5) (d := 45) (v := ?_) rfl rfl (by kernel_rfl) (by kernel_rfl) (by kernel_rfl) (fun _ _ _ h => h) (by rfl) ?_ ?_
            rotate_left
            · (intro w; go_simp; try with_reducible rfl)
            simp only [List.setIfInBounds_toArray, List.set_cons_zero, List.set_cons_succ]
            refine take_in (i := 6) (d := 46) (v := ?_) rfl rfl (by kernel_rfl) (by kernel_rfl) (by kernel_rfl) (fun _ _ _ h => h) (by rfl) ?_ ?_
            rotate_left
            · (intro w; go_simp; try with_reducible rfl)
            simp only [List.setIfInBounds_toArray, List.set_cons_zero, List.set_cons_succ]
            refine take_in (i := 7) (d := 47) (v := ?_) rfl rfl (by kernel_rfl) (by kernel_rfl) (by kernel_rfl) (fun _ _ _ h => h) (by rfl) ?_ ?_
            rotate_left
            · (intro w; go_simp; try with_reducible rfl)
            simp only [List.setIfInBounds_toArray, List.set_cons_zero, List.set_cons_succ]
            refine take_out (i := 8) (d := 48) rfl rfl (by kernel_rfl) (by kernel_rfl) (by kernel_rfl) (fun _ _ _ h => h) (by rfl) ?_
            simp only [List.setIfInBounds_toArray, List.set_cons_zero, List.set_cons_succ]
            refine take_out (i := 9) (d := 49) rfl rfl (by kernel_rfl) (by kernel_rfl) (by kernel_rfl) (fun _ _ _ h => h) (by rfl) ?_
            simp only [List.setIfInBounds_toArray, List.set_cons_zero, List.set_cons_succ]
            refine take_out (i := 10) (d := 50) rfl rfl (by kernel_rfl) (by kernel_rfl) (by kernel_rfl) (fun _ _ _ h => h) (by rfl) ?_
            simp only [List.setIfInBounds_toArray, List.set_cons_zero, List.set_cons_succ]
            refine take_out (i := 11) (d := 51) rfl rfl (by kernel_rfl) (by kernel_rfl) (by kernel_rfl) (fun _ _ _ h => h) (by rfl) ?_
            simp only [List.setIfInBounds_toArray, List.set_cons_zero, List.set_cons_succ]
            refine take_out (i := 12) (d := 52) rfl rfl (by kernel_rfl) (by kernel_rfl) (by kernel_rfl) (fun _ _ _ h => h) (by rfl) ?_
            simp only [List.setIfInBounds_toArray, List.set_cons_zero, List.set_cons_succ]
            refine take_out (i := 13) (d := 53) rfl rfl (by kernel_rfl) (by kernel_rfl) (by kernel_rfl) (fun _ _ _ h => h) (by rfl) ?_
            simp only [List.setIfInBounds_toArray, List.set_cons_zero, List.set_cons_succ]
            refine take_out (i := 14) (d := 54) rfl rfl (by kernel_rfl) (by kernel_rfl) (by kernel_rfl) (fun _ _ _ h => h) (by rfl) ?_
            simp only [List.setIfInBounds_toArray, List.set_cons_zero, List.set_cons_succ]
            refine take_out (i := 15) (d := 55) rfl rfl (by kernel_rfl) (by kernel_rfl) (by kernel_rfl) (fun _ _ _ h => h) (by rfl) ?_
            simp only [List.setIfInBounds_toArray, List.set_cons_zero, List.set_cons_succ]
            refine take_out (i := 16) (d := 56) rfl rfl (by kernel_rfl) (by kernel_rfl) (by kernel_rfl) (fun _ _ _ h => h) (by rfl) ?_
            simp only [List.setIfInBounds_toArray, List.set_cons_zero, List.set_cons_succ]
            refine take_in (i := 17) (d := 57) (v := ?_) rfl rfl (by kernel_rfl) (by kernel_rfl) (by kernel_rfl) (fun _ _ _ h => h) (by rfl) ?_ ?_
            rotate_left
            · (intro w; go_simp; try with_reducible rfl)
            simp only [List.setIfInBounds_toArray, List.set_cons_zero, List.set_cons_succ]
            refine take_in (i := 18) (d := 58) (v := ?_) rfl rfl (by kernel_rfl) (by kernel_rfl) (by kernel_rfl) (fun _ _ _ h => h) (by rfl) ?_ ?_
            rotate_left
            · (intro w; go_simp; try with_reducible rfl)
            simp only [List.setIfInBounds_toArray, List.set_cons_zero, List.set_cons_succ]
            refine wpAny_done (by kernel_rfl) ?_ _
            go_wp2_with fail
            exact ⟨⟨i + 1, by omega, rfl, HE1, Lib.hid (HB0.out.trans (HBC.out.mono HB0.out.size))⟩, by show n - ((i : Int) + 1).toNat < n - (i : Int).toNat; omega⟩
          · obtain ⟨q, hq⟩ : ∃ q, q = i - 1 := ⟨_, rfl⟩
            have HQ := Lib.hid (show i = q + 1 by omega)
            have hbt : decide (0 < i) = true := decide_eq_true (by omega)
            have hbi : (0 : Int) < (i : Int) := by omega
            have hw1 : (i : Int) - 1 = (q : Int) := by omega
            have hw2 : IntKind.i64.wrap ((i : Int) - 1) = (q : Int) := by rw [hw1]; exact IntWalk.i64_in _ (by omega)
            have hw3 : IntKind.i64.wrap (q : Int) = (q : Int) := IntWalk.i64_in _ (by omega)
            have hw4 : wrap64 (q : Int) = (q : Int) := wrap64_in (by omega) (by omega)
            have hq0 : (0 : Int) ≤ (q : Int) := by omega
            have hq1 : (q : Int) < (n : Int) := by omega
            obtain ⟨p, hp⟩ : ∃ p, rows[q]? = some p := ⟨_, List.getElem?_eq_getElem (by rw [HN.out]; omega)⟩
            have HPR := Lib.hid (show rowAt' rows q = p by unfold rowAt'; rw [List.getD_eq_getElem?_getD, hp]; rfl)
            obtain ⟨p0, p1, p2, p3, p4, p5, p6⟩ := p
            have KP := Lib.hid (show ∀ w', Below (wr.alloc (.cells #[.int .i64 y0, .int .i64 y1, .int .i64 y2, .int .i64 y3, .int .i64 y4, .int .i64 y5, .string y6] 29)).heap.size (wr.alloc (.cells #[.int .i64 y0, .int .i64 y1, .int .i64 y2, .int .i64 y3, .int .i64 y4, .int .i64 y5, .string y6] 29)) w' → w'.cell? ⟨b, off + q * 7, none⟩ = some (.int .i64 p0) ∧ w'.cell? ⟨b, off + q * 7 + 1, none⟩ = some (.int .i64 p1) ∧ w'.cell? ⟨b, off + q * 7 + 2, none⟩ = some (.int .i64 p2) ∧ w'.cell? ⟨b, off + q * 7 + 3, none⟩ = some (.int .i64 p3) ∧ w'.cell? ⟨b, off + q * 7 + 4, none⟩ = some (.int .i64 p4) ∧ w'.cell? ⟨b, off + q * 7 + 5, none⟩ = some (.int .i64 p5) ∧ w'.cell? ⟨b, off + q * 7 + 6, none⟩ = some (.string p6) from fun w' hb' => by
              obtain ⟨b2, off2, e2, hb2, r⟩ := row_at (HR.out.below (HB0.out.trans (hb'.mono HB0.out.size))) hp
              injection e2 with e2
              injection e2 with e3 e4
              subst e3 e4
              exact r)
            obtain ⟨bf, hbf⟩ : ∃ z, z = before 1 ⟨y0, y1, y2, y3, y4, y5, y6⟩ ⟨p0, p1, p2, p3, p4, p5, p6⟩ := ⟨_, rfl⟩
            have HCV := Lib.hid hbf
            have hca := before7 1 (.inl rfl) y0 y1 y2 y3 y4 y5 y6 p0 p1 p2 p3 p4 p5 p6
            rw [← hbf] at hca
            have HCA := Lib.hid hca
            clear hz hq hp hbf hca
            go_wp2_with fail
            go_region_held3 (fun w' => (w'.cell? ⟨wr.heap.size, 0, none⟩ = some (.int .i64 y0) ∧ w'.cell? ⟨wr.heap.size, 1, none⟩ = some (.int .i64 y1) ∧ w'.cell? ⟨wr.heap.size, 2, none⟩ = some (.int .i64 y2) ∧ w'.cell? ⟨wr.heap.size, 3, none⟩ = some (.int .i64 y3) ∧ w'.cell? ⟨wr.heap.size, 4, none⟩ = some (.int .i64 y4) ∧ w'.cell? ⟨wr.heap.size, 5, none⟩ = some (.int .i64 y5) ∧ w'.cell? ⟨wr.heap.size, 6, none⟩ = some (.string y6)) ∧ w'.cell? ⟨b, off + q * 7, none⟩ = some (.int .i64 p0) ∧ w'.cell? ⟨b, off + q * 7 + 1, none⟩ = some (.int .i64 p1) ∧ w'.cell? ⟨b, off + q * 7 + 2, none⟩ = some (.int .i64 p2) ∧ w'.cell? ⟨b, off + q * 7 + 3, none⟩ = some (.int .i64 p3) ∧ w'.cell? ⟨b, off + q * 7 + 4, none⟩ = some (.int .i64 p4) ∧ w'.cell? ⟨b, off + q * 7 + 5, none⟩ = some (.int .i64 p5) ∧ w'.cell? ⟨b, off + q * 7 + 6, none⟩ = some (.string p6))
              (exact ⟨KS.out _ HBC.out, KP.out _ HBC.out⟩)
              (first | (go_at_call 22; refine (HCA.out _).mono ?_; rintro e w5 ⟨rfl, b5⟩; have HBC := Lib.hid (HBC.out.trans (b5.mono HBC.out.size)); clear b5) | (go_at_call 17; refine (HVA.out _).mono ?_; rintro e w5 ⟨rfl, b5⟩; have HBC := Lib.hid (HBC.out.trans (b5.mono HBC.out.size)); clear b5) | (go_at_call 18; refine (plain7 _ _ _ _ _ _ _ _).mono ?_; rintro e w5 ⟨rfl, b5⟩; have HBC := Lib.hid (HBC.out.trans (b5.mono HBC.out.size)); clear b5))
            all_goals
              clear hw1 hw2 hw3 hw4
              cases bf with
              | true =>
                go_wp2_with fail
                go_ret
                exact ⟨rfl, HB0.out.trans (HBC.out.mono HB0.out.size)⟩
              | false =>
                have HE1 := Lib.hid (errs_next HE.out (errAt_iff (by rw [HXR.out]; exact HKV.out.symm) (fun h => by
                  rw [show i - 1 = q by have := HQ.out; omega, HXR.out, HPR.out]
                  exact HCV.out.symm)))
                go_wp2_with fail
                exact ⟨⟨i + 1, by omega, rfl, HE1, Lib.hid (HB0.out.trans (HBC.out.mono HB0.out.size))⟩, by show n - ((i : Int) + 1).toNat < n - (i : Int).toNat; omega⟩
      · obtain rfl : n = i := by omega
        have HLE := Lib.hid (show listErr 1 rows = 0 by unfold listErr; rw [HN.out]; exact firstI_zero HE.out)
        clear hlt hi HE
        go_wp2_with fail
        refine (tr_new 1 5 _ (.inl rfl) (by omega) (by omega)).mono ?_
        rintro e w2 ⟨g, bs, bl, rfl, t2, b2, s1, s2, s3⟩
        have T2 := Lib.hid t2
        have B2 := Lib.hid (HB.out.trans (b2.mono HB.out.size))
        clear t2 b2 s1 s2 s3 HB
        have ON2 := Lib.hid (own_none29 w2)
        have HBE := Lib.hid ((Below.refl w2.heap.size w2).alloc (Nat.le_refl _) (.cells #[] 29))
        have HRD2 := Lib.hid (show ReadAt (w2.alloc (.cells #[] 29)) Row.cells (.slice A n cap) rows by have h := SliceRd.read (cap := cap) ((HR.out.below B2.out).below HBE.out) Row.cells_length HZ.out; rw [HN.out] at h; exact h)
        have HSL2 := Lib.hid (show ([] : List Row).length + rows.length ≤ maxLen ∧ (([] : List Row).length + rows.length) * 64 ≤ 140737488355328 by rw [HN.out]; simp; unfold maxLen; omega)
        go_wp2_with (at_builtin; go_loud (refine cat_list Row.cells 29 50 50 29 (.agg Row.zero.cells.toArray) 7 64 Try.underlying50 Try.underlying50 (by kernel_rfl) rfl (by decide) Row.cells_length row_one _ _ (by rfl) (by rfl) w2.heap.size (.slice (some ⟨w2.heap.size, 0, none⟩) 0 0) [] rows (by rfl) ON2.out (.slice A n cap) (by rfl) HRD2.out HSL2.out.1 HSL2.out.2 (by simp) ?_); intro v3 w3 o3 g3 l3; have O3 := Lib.hid (show Own w3 w2.heap.size 29 7 Row.cells v3 rows from o3); have HB3 := Lib.hid (Below.grown HBE.out g3 (by simp) (fun k hk => by simp [Value.ownBlock] at hk; omega)); clear o3 g3 l3; obtain ⟨A3, c3, hv3⟩ := own_forms O3.out; rw [HN.out] at hv3; subst hv3)
        obtain ⟨gO, hgO⟩ : ∃ z, z = w3.heap.size := ⟨_, rfl⟩
        rw [← hgO]
        have HGO := Lib.hid hgO
        have HB0 := Lib.hid ((Below.refl w3.heap.size w3).alloc (Nat.le_refl _) (.cells #[.slice A3 n c3] 50))
        have OC := Lib.hid (show RowAt (w3.alloc (.cells #[.slice A3 n c3] 50)) gO 50 [.slice A3 n c3] from RowAt.new' _ _ 50 [.slice A3 n c3] hgO)
        have CP := Lib.hid (O3.out.below HB0.out)
        have T3 := Lib.hid ((T2.out.below HB3.out).below HB0.out)
        have B3 := Lib.hid ((B2.out.trans (HB3.out.mono B2.out.size)).trans (HB0.out.mono (Nat.le_trans B2.out.size HB3.out.size)))
        have LA := Lib.hid (show ListsAt (w3.alloc (.cells #[.slice A3 n c3] 50)) (some ⟨gO, 0, none⟩) [⟨A3, c3, rows⟩] from ⟨.inr ⟨gO, 0, rfl, OC.out.lt, fun j x hx k hk => by
          have hj := (List.getElem?_eq_some_iff.1 hx).1
          obtain rfl : j = 0 := by simpa using hj
          obtain rfl : k = 0 := by omega
          simp at hx
          subst hx
          show _ = some (LL.val _)
          unfold LL.val
          rw [OC.out.cell, HN.out]
          rfl⟩, fun l hl => by
          rw [List.mem_singleton] at hl
          subst hl
          exact Own.rd CP.out Row.cells_length⟩)
        have HLY := Lib.hid (show w.heap.size ≤ gO ∧ g < gO ∧ bs < gO ∧ bl < gO ∧ ∀ k, (Value.slice A3 0 0).ownBlock = some k → k < gO by
          have h8 := T2.out.lt
          have h9 := HB3.out.size
          have h7 := B2.out.size
          refine ⟨by omega, by omega, by omega, by omega, fun k hk => ?_⟩
          have hk' : (Value.slice A3 n c3).ownBlock = some k := by cases A3 <;> exact hk
          have := (Own.base O3.out k hk').2
          omega)
        have HNE := Lib.hid (show rows ≠ [] from fun e => by have := HN.out; rw [e] at this; simp at this; omega)
        clear hgO ON2 HBE HRD2 HSL2 T2 B2 HB3 O3 HB0
        have hlen1 : ([⟨A3, c3, rows⟩] : List LL).length = 1 := rfl
        go_wp2_with fail
        refine (merge_yes 1 (.inl rfl) (some ⟨gO, 0, none⟩) 1 1 [⟨A3, c3, rows⟩] _ rfl (by omega) (by omega) LA.out (fun l hl => by rw [List.mem_singleton] at hl; subst hl; show rows.length ≤ maxLen; rw [HN.out]; unfold maxLen; omega) (chk_self HLE.out) _ rfl (by simp; rw [HN.out]; omega)).mono ?_
        rintro e w4 ⟨v4, out4, rfl, so4, o4, b4⟩
        rw [merged_self HLE.out so4] at o4
        obtain ⟨ga, c4, rfl, hga1, hga2⟩ := own_some o4 HNE.out
        rw [HN.out] at o4 ⊢
        have OA := Lib.hid o4
        have GA := Lib.hid (show gO < ga ∧ ga < w4.heap.size from ⟨by have := OC.out.lt; omega, hga2⟩)
        have LA4 := Lib.hid (LA.out.below b4)
        have OC4 := Lib.hid (OC.out.below b4)
        have CP4 := Lib.hid (CP.out.below b4)
        have T4 := Lib.hid (T3.out.below b4)
        have B4 := Lib.hid (B3.out.trans (b4.mono B3.out.size))
        clear so4 o4 b4 hga1 hga2 LA OC CP T3 B3
        go_wp2_with fail
        refine (merge_yes 1 (.inl rfl) (some ⟨gO, 0, none⟩) 1 1 [⟨A3, c3, rows⟩] _ rfl (by omega) (by omega) LA4.out (fun l hl => by rw [List.mem_singleton] at hl; subst hl; show rows.length ≤ maxLen; rw [HN.out]; unfold maxLen; omega) (chk_self HLE.out) _ rfl (by simp; rw [HN.out]; omega)).mono ?_
        rintro e w5 ⟨v5, out5, rfl, so5, o5, b5⟩
        rw [merged_self HLE.out so5] at o5
        obtain ⟨gb, c5, rfl, hgb1, hgb2⟩ := own_some o5 HNE.out
        rw [HN.out] at o5 ⊢
        have OB5 := Lib.hid o5
        have GB := Lib.hid (show ga < gb ∧ gb < w5.heap.size from ⟨by have := GA.out.2; omega, hgb2⟩)
        have OA5 := Lib.hid (OA.out.below b5)
        have OC5 := Lib.hid (OC4.out.below b5)
        have CP5 := Lib.hid (CP4.out.below b5)
        have T5 := Lib.hid (T4.out.below b5)
        have B5 := Lib.hid (B4.out.trans (b5.mono B4.out.size))
        clear so5 o5 b5 hgb1 hgb2 LA4 OC4 CP4 T4 B4 OA
        have hnn : ((n : Int) != (n : Int)) = false := by simp
        go_wp2_with fail
        refine (tr_waiting g bs bl 1 _ _ T5.out).mono ?_
        rw [waits5]
        rintro e w6 ⟨v6, rfl, o6, b6⟩
        obtain ⟨gv, c6, rfl, hgv1, hgv2⟩ := own_some o6 (by simp)
        have OV := Lib.hid o6
        have GV := Lib.hid (show gb < gv ∧ gv < w6.heap.size from ⟨by have := GB.out.2; omega, hgv2⟩)
        have OB6 := Lib.hid (OB5.out.below b6)
        have OA6 := Lib.hid (OA5.out.below b6)
        have OC6 := Lib.hid (OC5.out.below b6)
        have CP6 := Lib.hid (CP5.out.below b6)
        have T6 := Lib.hid (T5.out.below b6)
        have B6 := Lib.hid (B5.out.trans (b6.mono B5.out.size))
        clear o6 b6 hgv1 hgv2 OB5 OA5 OC5 CP5 T5 B5 hnn
        go_wp2_with fail
        refine (tr_waiting g bs bl 1 _ _ T6.out).mono ?_
        rw [waits5]
        rintro e w7 ⟨v7, rfl, o7, b7⟩
        obtain ⟨gw, c7, rfl, hgw1, hgw2⟩ := own_some o7 (by simp)
        have GW := Lib.hid (show gv < gw ∧ gw < w7.heap.size from ⟨by have := GV.out.2; omega, hgw2⟩)
        have RS := Lib.hid (show Rest w g bs bl gO gb gw _ _ _ A3 c3 n c5 c7 rows w7 from ⟨T6.out.below b7, OB6.out.below b7, o7, OC6.out.below b7, CP6.out.below b7, B6.out.trans (b7.mono B6.out.size)⟩)
        have OA7 := Lib.hid (show Own w7 gO 29 7 Row.cells (.slice (some ⟨ga, 0, none⟩) n c4) rows from (OA6.out.below b7).mono (by rw [HGO.out]; simp))
        have OV7 := Lib.hid (OV.out.below b7)
        have LY := Lib.hid (show Lay w g bs bl gO gb gw w2.heap.size w4.heap.size w6.heap.size A3 from ⟨HLY.out.1, HLY.out.2.1, HLY.out.2.2.1, HLY.out.2.2.2.1, HLY.out.2.2.2.2, by have := GA.out; have := GB.out; omega, by have := GA.out; have := GB.out; have := GV.out; have := GW.out; omega⟩)
        clear o7 b7 hgw1 hgw2 OB6 OA6 OC6 CP6 T6 B6 OV
        go_wp2_with fail
        have HAP := Lib.hid (show gO < ga ∧ ga ≠ gb ∧ ga ≠ gw ∧ gO < gv ∧ gv ≠ gb ∧ gv ≠ gw ∧ ga ≠ gv from by have := GA.out; have := GB.out; have := GV.out; have := GW.out; omega)
        have HLR := Lib.hid HN.out
        go_loopw [118] (fun ix wr => ∃ i : Nat, i ≤ n ∧ ix = .int .i64 i ∧ Hid (Rest w g bs bl gO gb gw w2.heap.size w4.heap.size w6.heap.size A3 c3 n c5 c7 rows wr) ∧ Hid (Own wr gO 29 7 Row.cells (.slice (some ⟨ga, 0, none⟩) n c4) (markF r71 i rows)) ∧ Hid (Own wr w5.heap.size 3 1 natCell (.slice (some ⟨gv, 0, none⟩) 5 c6) [0, 1, 2, 3, 4])) (fun ix _ => n - (intOf ix).toNat)
        case atStart => exact ⟨0, by omega, rfl, RS, by rw [markF_zero]; exact OA7, OV7⟩
        case round =>
          clear RS OA7 OV7
          obtain ⟨i, hi, rfl, HS, HA, HV⟩ := hrel
          have HML := Lib.hid (markF_length r71 (i := i) (l := rows) (by rw [HLR.out]; exact hi))
          by_cases hlt : i < n
          · obtain ⟨g1, x1, e1, hx1, hcc, hff, hlt1⟩ := Own.at Row.cells_length HA.out (i := i) (by rw [HML.out, HLR.out]; exact hlt)
            injection e1 with e1
            injection e1 with e1
            subst e1
            have q0 := hcc 0 (by omega)
            have q1 := hcc 1 (by omega)
            have q2 := hcc 2 (by omega)
            have q3 := hcc 3 (by omega)
            have q4 := hcc 4 (by omega)
            have q5 := hcc 5 (by omega)
            have q6 := hcc 6 (by omega)
            simp only [Row.cells, List.getElem?_cons_zero, List.getElem?_cons_succ, Nat.add_zero] at q0 q1 q2 q3 q4 q5 q6
            have hk0 : (0 : Int) ≤ (i : Int) := by omega
            have hk1 : (i : Int) < (n : Int) := by omega
            have HA1 := Lib.hid (show Own (wset wr ga (i * 7) r71.cells) gO 29 7 Row.cells (.slice (some ⟨ga, 0, none⟩) n c4) (markF r71 (i + 1) rows) from by
              have h := Own.put Row.cells_length HA.out (i := i) (by rw [HML.out, HLR.out]; exact hlt) r71
              rw [markF_set r71 (by rw [HLR.out]; exact hlt)] at h
              exact h)
            have HTT := Lib.hid (show Turn (fun q => q = ga) wr (wset wr ga (i * 7) r71.cells) from Turn.wset (S := fun q => q = ga) (.inl rfl) r71.cells (i * 7) (Turn.refl _ _))
            have HS1 := Lib.hid (HS.out.turn LY.out HTT.out fun k hk => by have := HAP.out; have e : k = ga := hk; omega)
            have HV1 := Lib.hid (HV.out.turn HTT.out fun k hk e => by have e1 : gv = k := Option.some.inj hk; have := HAP.out; have e2 : k = ga := e; omega)
            clear hcc hx1
            go_wp2_with fail
            exact ⟨⟨i + 1, by omega, rfl, HS1, HA1, HV1⟩, by show n - ((i : Int) + 1).toNat < n - (i : Int).toNat; omega⟩
          · obtain rfl : n = i := by omega
            have HAL := Lib.hid (show Own wr gO 29 7 Row.cells (.slice (some ⟨ga, 0, none⟩) n c4) (List.replicate n r71) from by
              have h := HA.out
              have e := markF_all r71 rows
              rw [HLR.out] at e
              rw [e] at h
              exact h)
            clear HA HML
            go_wp2_with fail
            go_loopw [128] (fun ix wr => ∃ i : Nat, i ≤ 5 ∧ ix = .int .i64 i ∧ Hid (Rest w g bs bl gO gb gw w2.heap.size w4.heap.size w6.heap.size A3 c3 n c5 c7 rows wr) ∧ Hid (Own wr gO 29 7 Row.cells (.slice (some ⟨ga, 0, none⟩) n c4) (List.replicate n r71)) ∧ Hid (Own wr w5.heap.size 3 1 natCell (.slice (some ⟨gv, 0, none⟩) 5 c6) (markF 40 i [0, 1, 2, 3, 4]))) (fun ix _ => 5 - (intOf ix).toNat)
            case atStart => exact ⟨0, by omega, rfl, HS, HAL, by rw [markF_zero]; exact HV⟩
            case round =>
              clear HS HAL HV
              obtain ⟨i, hi, rfl, HS, HA, HV⟩ := hrel
              have HML := Lib.hid (show (markF 40 i [0, 1, 2, 3, 4]).length = 5 from markF_length 40 (i := i) (l := [0, 1, 2, 3, 4]) (by simpa using hi))
              by_cases hlt : i < 5
              · obtain ⟨g1, x1, e1, hx1, hcc, hff, hlt1⟩ := Own.at (f := natCell) (size := 1) (fun _ => rfl) HV.out (i := i) (by rw [HML.out]; exact hlt)
                injection e1 with e1
                injection e1 with e1
                subst e1
                have q0 := hcc 0 (by omega)
                rw [Nat.mul_one, Nat.add_zero] at q0
                simp only [natCell, List.getElem?_cons_zero] at q0
                have hk0 : (0 : Int) ≤ (i : Int) := by omega
                have hk1 : (i : Int) < 5 := by omega
                have HWE := Lib.hid (show wset wr gv (i * 1) (natCell 40) = wr.setCell ⟨gv, i, none⟩ (.int .i64 40) by rw [Nat.mul_one]; rfl)
                have HV1 := Lib.hid (show Own (wr.setCell ⟨gv, i, none⟩ (.int .i64 40)) w5.heap.size 3 1 natCell (.slice (some ⟨gv, 0, none⟩) 5 c6) (markF 40 (i + 1) [0, 1, 2, 3, 4]) from by
                  have h := Own.put (f := natCell) (size := 1) (fun _ => rfl) HV.out (i := i) (by rw [HML.out]; exact hlt) 40
                  rw [markF_set 40 (by simpa using hlt), HWE.out] at h
                  exact h)
                have HTT := Lib.hid (show Turn (fun q => q = gv) wr (wr.setCell ⟨gv, i, none⟩ (.int .i64 40)) from Turn.setCell (S := fun q => q = gv) (p := ⟨gv, i, none⟩) (Turn.refl _ _) (.inl rfl) _)
                have HS1 := Lib.hid (HS.out.turn LY.out HTT.out fun k hk => by have := HAP.out; have e : k = gv := hk; omega)
                have HA1 := Lib.hid (HA.out.turn HTT.out fun k hk e => by have e1 : ga = k := Option.some.inj hk; have := HAP.out; have e2 : k = gv := e; omega)
                clear hcc hx1
                go_wp2_with fail
                exact ⟨⟨i + 1, by omega, rfl, HS1, HA1, HV1⟩, by show 5 - ((i : Int) + 1).toNat < 5 - (i : Int).toNat; omega⟩
              · obtain rfl : 5 = i := by omega
                have HX := Lib.hid (show Own wr w5.heap.size 3 1 natCell (.slice (some ⟨gv, 0, none⟩) 5 c6) [40, 40, 40, 40, 40] from HV.out)
                clear HV HML
                obtain ⟨W, hW⟩ : ∃ z, z = wr := ⟨_, rfl⟩
                subst hW
                have HBE := Lib.hid ((Below.refl W.heap.size W).alloc (Nat.le_refl _) (.cells #[.int .i64 72, .int .i64 0, .int .i64 0, .int .i64 0, .int .i64 0, .int .i64 0, .string ByteArray.empty, .int .i64 72, .int .i64 0, .int .i64 0, .int .i64 0, .int .i64 0, .int .i64 0, .string ByteArray.empty] 29))
                have HR2 := Lib.hid (show ReadAt (W.alloc (.cells #[.int .i64 72, .int .i64 0, .int .i64 0, .int .i64 0, .int .i64 0, .int .i64 0, .string ByteArray.empty, .int .i64 72, .int .i64 0, .int .i64 0, .int .i64 0, .int .i64 0, .int .i64 0, .string ByteArray.empty] 29)) Row.cells (.slice (some ⟨W.heap.size, 0, none⟩) 2 2) [r72, r72] from Own.read (base := 0) (e := 29) (size := 7) (RowAt.own (n := 2) (RowAt.new' _ _ 29 ([r72, r72].flatMap Row.cells) rfl) (Nat.zero_le _) rfl (by decide)))
                have HOA := Lib.hid (HA.out.below HBE.out)
                have HSL := Lib.hid (show (List.replicate n r71).length + [r72, r72].length ≤ maxLen ∧ ((List.replicate n r71).length + [r72, r72].length) * 64 ≤ 140737488355328 by simp; unfold maxLen; omega)
                have HGS := Lib.hid (show gO ≤ W.heap.size by have := HS.out.oc.lt; omega)
                go_wp2_with (first
                  | (at_builtin; refine cat_list Row.cells 29 50 50 29 (.agg Row.zero.cells.toArray) 7 64 Try.underlying50 Try.underlying50 (by kernel_rfl) rfl (by decide) Row.cells_length row_one _ _ (by rfl) (by rfl) gO (.slice (some ⟨ga, 0, none⟩) n c4) (List.replicate n r71) [r72, r72] (by rfl) HOA.out (.slice (some ⟨W.heap.size, 0, none⟩) 2 2) (by rfl) HR2.out HSL.out.1 HSL.out.2 (by have := HGS.out; simp; omega) ?_; intro v8 w8 o8 g8 l8; have O8 := Lib.hid o8; have HT8 := Lib.hid (show Turn (fun q => q = ga) W w8 from (Turn.of_below HBE.out _).grown g8 fun k hk => .inl (Option.some.inj hk).symm); clear o8 g8 l8; obtain ⟨A8, c8, hv8⟩ := own_forms O8.out; rw [show (List.replicate n r71 ++ [r72, r72]).length = n + 2 by simp] at hv8; subst hv8; have HS8 := Lib.hid (HS.out.turn LY.out HT8.out fun k hk => by have := HAP.out; have e : k = ga := hk; omega); have HX8 := Lib.hid (HX.out.turn HT8.out fun k hk e => by have e1 : gv = k := Option.some.inj hk; have := HAP.out; have e2 : k = ga := e; omega); have HB8 := Lib.hid ((Below.refl w8.heap.size w8).alloc (Nat.le_refl _) (.cells #[.int .i64 41, .int .i64 41] 3)); have HR8 := Lib.hid (show ReadAt (w8.alloc (.cells #[.int .i64 41, .int .i64 41] 3)) natCell (.slice (some ⟨w8.heap.size, 0, none⟩) 2 2) [41, 41] from Own.read (base := 0) (e := 3) (size := 1) (RowAt.own (n := 2) (RowAt.new' _ _ 3 ([41, 41].flatMap natCell) rfl) (Nat.zero_le _) rfl (by decide))); have HOX := Lib.hid (HX8.out.below HB8.out))
                  | (at_builtin; refine cat_list natCell 3 32 32 3 (.int .i64 0) 1 8 Try.underlying32 Try.underlying32 info3 rfl (by decide) (fun _ => rfl) (fun x u hu => by simp [natCell] at hu; subst hu; rfl) _ _ (by rfl) (by rfl) w5.heap.size (.slice (some ⟨gv, 0, none⟩) 5 c6) [40, 40, 40, 40, 40] [41, 41] (by rfl) HOX.out (.slice (some ⟨w8.heap.size, 0, none⟩) 2 2) (by rfl) HR8.out (by decide) (by decide) (Nat.le_trans (Nat.le_of_lt (Nat.lt_of_le_of_lt (Nat.le_trans (Own.base HOX.out gv rfl).1 (Nat.le_refl _)) (Own.base HOX.out gv rfl).2)) (Nat.le_refl _)) ?_; intro v9 w9 o9 g9 l9; have O9 := Lib.hid (show Own w9 w5.heap.size 3 1 natCell v9 [40, 40, 40, 40, 40, 41, 41] from o9); have HT9 := Lib.hid (show Turn (fun q => q = gv) w8 w9 from (Turn.of_below HB8.out _).grown g9 fun k hk => .inl (Option.some.inj hk).symm); clear o9 g9 l9; obtain ⟨A9, c9, hv9⟩ := own_forms O9.out; subst hv9))
                have HS9 := Lib.hid (HS8.out.turn LY.out HT9.out fun k hk => by have := HAP.out; have e : k = gv := hk; omega)
                have HC9 := Lib.hid (show Own w9 gO 29 7 Row.cells (.slice A8 (n + 2) c8) (List.replicate n r71 ++ [r72, r72]) from O8.out.turn HT9.out fun k hk e => by
                  have e2 : k = gv := e
                  exact own_ne O8.out HX8.out (by decide) k hk (by rw [e2]; rfl))
                have HCR := Lib.hid (Own.rd HC9.out Row.cells_length)
                have HXR := Lib.hid (Own.rd O9.out (f := natCell) (size := 1) (fun _ => rfl))
                clear HBE HR2 HOA HSL HGS HX HX8 HB8 HR8 HOX HS8 HA HS O8 HC9 HT8 HT9 O9
                go_wp2_with fail
                go_loopw [145] (fun ix wr => ∃ i : Nat, i ≤ n ∧ ix = .int .i64 i ∧ Hid (Below w9.heap.size w9 wr)) (fun ix _ => n - (intOf ix).toNat)
                case atStart => exact ⟨0, by omega, rfl, Lib.hid (Below.refl _ _)⟩
                case round =>
                  obtain ⟨i, hi, rfl, HBL⟩ := hrel
                  have HS := Lib.hid (HS9.out.below HBL.out)
                  by_cases hlt : i < n
                  · obtain ⟨x, hx⟩ : ∃ x, rows[i]? = some x := ⟨_, List.getElem?_eq_getElem (by rw [HLR.out]; exact hlt)⟩
                    obtain ⟨x0, x1, x2, x3, x4, x5, x6⟩ := x
                    have hba := (Below.refl wr.heap.size wr).alloc (Nat.le_refl _) (.cells #[.int .i64 x0, .int .i64 x1, .int .i64 x2, .int .i64 x3, .int .i64 x4, .int .i64 x5, .string x6] 29)
                    have HSA := Lib.hid (HS.out.below hba)
                    obtain ⟨b, off, rfl, hb, k0, k1, k2, k3, k4, k5, k6⟩ := row_at (HR.out.below HS.out.low) hx
                    obtain ⟨bb, offb, eb, hbb, q0, q1, q2, q3, q4, q5, q6⟩ := row_at (Own.rd HSA.out.b Row.cells_length) hx
                    injection eb with eb
                    injection eb with eb1 eb2
                    subst eb1 eb2
                    obtain ⟨bc, offc, rfl, hbc, p0, p1, p2, p3, p4, p5, p6⟩ := row_at (Own.rd HSA.out.cp Row.cells_length) hx
                    obtain ⟨bx, offx, rfl, hbx, z0, z1, z2, z3, z4, z5, z6⟩ := row_at ((HCR.out.below HBL.out).below hba) (i := i) (x := r71) (by rw [List.getElem?_append_left (by simpa using hlt), List.getElem?_replicate, if_pos hlt])
                    have oc0 := HSA.out.oc.cell 0
                    simp only [List.getElem?_cons_zero, Nat.zero_add] at k0 k1 k2 k3 k4 k5 k6 q0 q1 q2 q3 q4 q5 q6 p0 p1 p2 p3 p4 p5 p6 z0 oc0
                    have hxc : ∀ j, (wr.alloc (.cells #[.int .i64 x0, .int .i64 x1, .int .i64 x2, .int .i64 x3, .int .i64 x4, .int .i64 x5, .string x6] 29)).cell? ⟨wr.heap.size, j, none⟩ = [Value.int .i64 x0, .int .i64 x1, .int .i64 x2, .int .i64 x3, .int .i64 x4, .int .i64 x5, .string x6][j]? := (RowAt.new wr 29 [.int .i64 x0, .int .i64 x1, .int .i64 x2, .int .i64 x3, .int .i64 x4, .int .i64 x5, .string x6]).cell
                    have HBA := Lib.hid ((HBL.out.trans (hba.mono HBL.out.size)).drew)
                    have hi0 : (0 : Int) ≤ (i : Int) := by omega
                    have hi1 : (i : Int) < (n : Int) := by omega
                    have hi2 : (i : Int) < (n : Int) + 2 := by omega
                    have hi3 : i < n + 2 := by omega
                    have hself := Row.eqb_self ⟨x0, x1, x2, x3, x4, x5, x6⟩
                    clear hx hba z1 z2 z3 z4 z5 z6
                    go_wp2_with fail
                    refine wp_region_still_lit (by kernel_rfl) (by kernel_rfl) ?_
                    change wpStill _ _ (World.drew (wr.alloc (.cells #[.int .i64 x0, .int .i64 x1, .int .i64 x2, .int .i64 x3, .int .i64 x4, .int .i64 x5, .string x6] 29))) _ _ _
                    repeat still_step
                    refine wpStill_nil ?_
                    change _
                    go_wp2_with fail
                    exact ⟨⟨i + 1, by omega, rfl, HBA⟩, by show n - ((i : Int) + 1).toNat < n - (i : Int).toNat; omega⟩
                  · obtain rfl : n = i := by omega
                    go_wp2_with fail
                    refine (tr_waiting g bs bl 1 _ _ HS.out.tr).mono ?_
                    rw [waits5]
                    rintro e w10 ⟨v10, rfl, o10, b10⟩
                    obtain ⟨gu, c10, rfl, hgu1, hgu2⟩ := own_some o10 (by simp)
                    have OU := Lib.hid (Own.rd o10 (f := natCell) (size := 1) (fun _ => rfl))
                    have OW := Lib.hid (Own.rd (HS.out.v.below b10) (f := natCell) (size := 1) (fun _ => rfl))
                    have OX := Lib.hid ((HXR.out.below HBL.out).below b10)
                    have HLW := Lib.hid (HS.out.low.trans (b10.mono HS.out.low.size))
                    clear o10 b10 hgu1 hgu2
                    go_wp2_with fail
                    go_loopw [182] (fun ix wr => ∃ i : Nat, i ≤ 5 ∧ ix = .int .i64 i ∧ Hid (Below w10.heap.size w10 wr)) (fun ix _ => 5 - (intOf ix).toNat)
                    case atStart => exact ⟨0, by omega, rfl, Lib.hid (Below.refl _ _)⟩
                    case round =>
                      obtain ⟨i, hi, rfl, HBU⟩ := hrel
                      by_cases hlt : i < 5
                      · have hat : ([0, 1, 2, 3, 4] : List Nat)[i]? = some i := by
                          match i, hlt with
                          | 0, _ => rfl
                          | 1, _ => rfl
                          | 2, _ => rfl
                          | 3, _ => rfl
                          | 4, _ => rfl
                        have hax : ([40, 40, 40, 40, 40, 41, 41] : List Nat)[i]? = some 40 := by
                          match i, hlt with
                          | 0, _ => rfl
                          | 1, _ => rfl
                          | 2, _ => rfl
                          | 3, _ => rfl
                          | 4, _ => rfl
                        obtain ⟨b1, o1, e1, hb1, hc1⟩ := (OU.out.below HBU.out).at hat
                        obtain ⟨b2, o2, e2, hb2, hc2⟩ := (OW.out.below HBU.out).at hat
                        obtain ⟨b3, o3, rfl, hb3, hc3⟩ := (OX.out.below HBU.out).at hax
                        injection e1 with e1
                        injection e1 with e11 e12
                        subst e11 e12
                        injection e2 with e2
                        injection e2 with e21 e22
                        subst e21 e22
                        have u0 := hc1 0 (by omega)
                        have v0 := hc2 0 (by omega)
                        have y0 := hc3 0 (by omega)
                        rw [Nat.mul_one, Nat.add_zero] at u0 v0 y0
                        simp only [natCell, List.getElem?_cons_zero, Nat.zero_add] at u0 v0 y0
                        have hi0 : (0 : Int) ≤ (i : Int) := by omega
                        have hi1 : (i : Int) < 5 := by omega
                        have hi2 : (i : Int) < 7 := by omega
                        have hii : ((i : Int) != (i : Int)) = false := by simp
                        clear hc1 hc2 hc3 hat hax
                        go_wp2_with fail
                        exact ⟨⟨i + 1, by omega, rfl, HBU⟩, by show 5 - ((i : Int) + 1).toNat < 5 - (i : Int).toNat; omega⟩
                      · obtain rfl : 5 = i := by omega
                        go_wp2_with fail
                        go_ret
                        exact ⟨rfl, HLW.out.trans (HBU.out.mono HLW.out.size)⟩
end Go.Proofs.Ytgcfpepaapdjoaa
