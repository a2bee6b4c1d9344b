/- Logs that are read: the document's Same and SameList. -/
import Derived.Test.YtfodagidmdbmlaaNN
namespace Go.Proofs.Ytfodagidmdbmlaa
set_option linter.unusedVariables false
set_option linter.unusedSimpArgs false
open Go.RowKit

/-- Operations are the same. -/
def opEq (a b : MOp) : Bool := (a.kind == b.kind) && ((a.key.toList == b.key.toList) && ((a.found == b.found) && (a.value.toList == b.value.toList)))
theorem eqOp (d : Nat) (w : World) (x0 y0 : Int) (x1 y1 : ByteArray) (x2 y2 : Bool) (x3 y3 : ByteArray) :
    (Op.equalIn (d + 2) 67 (.agg #[.int .i64 x0, .string x1, .bool x2, .string x3]) (.agg #[.int .i64 y0, .string y1, .bool y2, .string y3])).run Try.prog w = .ok (opEq ⟨x0, x1, x2, x3⟩ ⟨y0, y1, y2, y3⟩) w := by
  refine eqStruct_of Try.underlying67 (by kernel_rfl) ?_
  refine eqField_cons (by rfl) (by go_simp; rfl) (by go_simp; rfl) (by go_simp) ?_
  refine eqField_cons (by rfl) (by go_simp; rfl) (by go_simp; rfl) (by go_simp) ?_
  refine eqField_cons (by rfl) (by go_simp; rfl) (by go_simp; rfl) (by go_simp) ?_
  exact eqField_last (by rfl) (by go_simp; rfl) (by go_simp; rfl) (by go_simp)
attribute [local go_sem high] eqOp
theorem opEq_self (a : MOp) : opEq a a = true := by unfold opEq; simp
theorem SliceRd.drew {α : Type} {w : World} {A : Option Addr} {n : Nat} {f : α → List Value} {xs : List α} (h : SliceRd w A n f xs) : SliceRd w.drew A n f xs := h
/-- A log that may be read. -/
structure LogRd (w : World) (A : Option Addr) (rs : List Run) (ovs : List Value) : Prop where
  row : SliceRd w A 8 logC (rs.zip ovs)
  len : ovs.length = rs.length
  ops : ∀ (t : Nat) (ov : Value) (r : Run), ovs[t]? = some ov → rs[t]? = some r → ∃ A' c', ov = .slice A' r.ops.length c' ∧ SliceRd w A' 4 MOp.cells r.ops
theorem LogRd.below {w w' : World} {A : Option Addr} {rs : List Run} {ovs : List Value} (h : LogRd w A rs ovs) (hb : Below w.heap.size w w') : LogRd w' A rs ovs :=
  ⟨h.row.below hb, h.len, fun t ov r h1 h2 => by obtain ⟨A', c', e, h3⟩ := h.ops t ov r h1 h2; exact ⟨A', c', e, h3.below hb⟩⟩
theorem LogAt.rd {B : Nat} {w : World} {A : Option Addr} {n c : Nat} {rs : List Run} {ovs : List Value} (h : LogAt B w (.slice A n c) rs ovs) : LogRd w A rs ovs :=
  ⟨Own.rd h.row logC_len, h.len, fun t ov r h1 h2 => by
    have h3 := h.ops t ov r h1 h2
    obtain ⟨A', c', rfl⟩ := own_forms h3
    exact ⟨A', c', rfl, Own.rd h3 MOp.len⟩⟩
theorem SliceRd.take {α : Type} {w : World} {A : Option Addr} {n : Nat} {f : α → List Value} {xs : List α} (h : SliceRd w A n f xs) (k : Nat) : SliceRd w A n f (xs.take k) := by
  rcases h with rfl | ⟨b, off, rfl, hb, hc⟩
  · exact .inl (List.take_nil ..)
  · refine .inr ⟨b, off, rfl, hb, fun i x hx j hj => hc i x ?_ j hj⟩
    rw [List.getElem?_take] at hx
    split at hx
    · exact hx
    · cases hx
theorem LogRd.take {w : World} {A : Option Addr} {rs : List Run} {ovs : List Value} (h : LogRd w A rs ovs) (k : Nat) : LogRd w A (rs.take k) (ovs.take k) := by
  refine ⟨?_, by rw [List.length_take, List.length_take, h.len], fun t ov r h1 h2 => ?_⟩
  · rw [show (rs.take k).zip (ovs.take k) = (rs.zip ovs).take k from List.take_zipWith.symm]
    exact h.row.take k
  · rw [List.getElem?_take] at h1 h2
    split at h1
    · rename_i hk
      rw [if_pos hk] at h2
      exact h.ops t ov r h1 h2
    · cases h1
set_option maxRecDepth 100000 in
set_option maxHeartbeats 8000000 in
theorem same_any (x0 x1 x2 x3 x4 x5 x6 : Int) (l : List MOp) (n : Nat) (A A' : Option Addr) (c c' : Nat) (w : World) (hn : l.length = n) (hm : n ≤ 4611686018427387904) (h : SliceRd w A 4 MOp.cells l) (h' : SliceRd w A' 4 MOp.cells l) :
    Calls Try.prog 41 #[.agg #[.int .i64 x0, .int .i64 x1, .int .i64 x2, .int .i64 x3, .int .i64 x4, .int .i64 x5, .int .i64 x6, .slice A n c], .agg #[.int .i64 x0, .int .i64 x1, .int .i64 x2, .int .i64 x3, .int .i64 x4, .int .i64 x5, .int .i64 x6, .slice A' n c']] w fun e w' => e = .returned (.bool true) ∧ Below w.heap.size w w' := by
  have HN := Lib.hid hn
  have hb := ((Below.refl w.heap.size w).alloc (Nat.le_refl _) (.cells #[.int .i64 x0, .int .i64 x1, .int .i64 x2, .int .i64 x3, .int .i64 x4, .int .i64 x5, .int .i64 x6, .slice A n c] 55)).alloc (by simp) (.cells #[.int .i64 x0, .int .i64 x1, .int .i64 x2, .int .i64 x3, .int .i64 x4, .int .i64 x5, .int .i64 x6, .slice A' n c'] 55)
  have HB := Lib.hid hb
  have H := Lib.hid (h.below hb)
  have H' := Lib.hid (h'.below hb)
  have RA := Lib.hid ((RowAt.new w 55 [.int .i64 x0, .int .i64 x1, .int .i64 x2, .int .i64 x3, .int .i64 x4, .int .i64 x5, .int .i64 x6, .slice A n c]).alloc (.cells #[.int .i64 x0, .int .i64 x1, .int .i64 x2, .int .i64 x3, .int .i64 x4, .int .i64 x5, .int .i64 x6, .slice A' n c'] 55))
  have RB := Lib.hid (RowAt.new' (w.alloc (.cells #[.int .i64 x0, .int .i64 x1, .int .i64 x2, .int .i64 x3, .int .i64 x4, .int .i64 x5, .int .i64 x6, .slice A n c] 55)) (w.heap.size + 1) 55 [.int .i64 x0, .int .i64 x1, .int .i64 x2, .int .i64 x3, .int .i64 x4, .int .i64 x5, .int .i64 x6, .slice A' n c'] (by simp))
  clear hn hb h h'
  go_enter Try.func41, Try.ntmps41
  go_wp2_with fail
  go_loopw [5] (fun ix wr => ∃ i : Nat, i ≤ n ∧ ix = .int .i64 i ∧ Hid (Below w.heap.size w wr) ∧ Hid (RowAt wr w.heap.size 55 [.int .i64 x0, .int .i64 x1, .int .i64 x2, .int .i64 x3, .int .i64 x4, .int .i64 x5, .int .i64 x6, .slice A n c]) ∧ Hid (RowAt wr (w.heap.size + 1) 55 [.int .i64 x0, .int .i64 x1, .int .i64 x2, .int .i64 x3, .int .i64 x4, .int .i64 x5, .int .i64 x6, .slice A' n c']) ∧ Hid (SliceRd wr A 4 MOp.cells l) ∧ Hid (SliceRd wr A' 4 MOp.cells l)) (fun ix _ => n - (intOf ix).toNat)
  case atStart => exact ⟨0, by omega, rfl, HB, RA, RB, H, H'⟩
  case round =>
    clear HB RA RB H H'
    obtain ⟨i, hi, rfl, HB, RA, RB, H, H'⟩ := hrel
    have a7 := RA.out.cell 7
    have b7 := RB.out.cell 7
    simp only [List.getElem?_cons_zero, List.getElem?_cons_succ] at a7 b7
    by_cases hlt : i < n
    · obtain ⟨x, hx⟩ : ∃ x, l[i]? = some x := ⟨_, List.getElem?_eq_getElem (by rw [HN.out]; exact hlt)⟩
      obtain ⟨b, off, rfl, hb, hc⟩ := H.out.at hx
      obtain ⟨b', off', rfl, hb', hc'⟩ := H'.out.at hx
      obtain ⟨x0, x1, x2, x3⟩ := x
      have k0 := hc 0 (by omega)
      have k1 := hc 1 (by omega)
      have k2 := hc 2 (by omega)
      have k3 := hc 3 (by omega)
      have q0 := hc' 0 (by omega)
      have q1 := hc' 1 (by omega)
      have q2 := hc' 2 (by omega)
      have q3 := hc' 3 (by omega)
      simp only [MOp.cells, List.getElem?_cons_zero, List.getElem?_cons_succ, Nat.add_zero] at k0 k1 k2 k3 q0 q1 q2 q3
      have hi0 : (0 : Int) ≤ (i : Int) := by omega
      have hi1 : (i : Int) < (n : Int) := by omega
      have hself := opEq_self ⟨x0, x1, x2, x3⟩
      clear hc hc' hx
      go_wp2_with fail
      go_region
      go_wp2_with fail
      exact ⟨⟨i + 1, by omega, rfl, Lib.hid HB.out.drew, Lib.hid RA.out.drew, Lib.hid RB.out.drew, Lib.hid H.out.drew, Lib.hid H'.out.drew⟩, by show n - ((i : Int) + 1).toNat < n - (i : Int).toNat; omega⟩
    · obtain rfl : i = n := by omega
      go_wp2_with fail
      go_ret
      exact ⟨rfl, HB.out⟩
set_option maxRecDepth 100000 in
set_option maxHeartbeats 8000000 in
theorem same_list (rs : List Run) (ovs ovs' : List Value) (n : Nat) (A A' : Option Addr) (c c' : Nat) (w : World) (hn : rs.length = n) (hm : n ≤ 4611686018427387904) (hop : ∀ r ∈ rs, r.ops.length ≤ 16) (h : LogRd w A rs ovs) (h' : LogRd w A' rs ovs') :
    Calls Try.prog 21 #[.slice A n c, .slice A' n c'] w fun e w' => e = .returned (.bool true) ∧ Below w.heap.size w w' := by
  have HN := Lib.hid hn
  have HO := Lib.hid hop
  have H := Lib.hid h
  have H' := Lib.hid h'
  clear hn hop h h'
  go_enter Try.func21, Try.ntmps21
  go_wp2_with fail
  go_loopw [5] (fun ix wr => ∃ i : Nat, i ≤ n ∧ ix = .int .i64 i ∧ Hid (Below w.heap.size w wr)) (fun ix _ => n - (intOf ix).toNat)
  case atStart => exact ⟨0, by omega, rfl, Lib.hid (Below.refl _ _)⟩
  case round =>
    obtain ⟨i, hi, rfl, HB⟩ := hrel
    by_cases hlt : i < n
    · have HA := Lib.hid (H.out.below HB.out)
      have HA' := Lib.hid (H'.out.below HB.out)
      obtain ⟨r, hr⟩ : ∃ r, rs[i]? = some r := ⟨_, List.getElem?_eq_getElem (by rw [HN.out]; exact hlt)⟩
      obtain ⟨ov, hov⟩ : ∃ ov, ovs[i]? = some ov := ⟨_, List.getElem?_eq_getElem (by rw [HA.out.len, HN.out]; exact hlt)⟩
      obtain ⟨ov', hov'⟩ : ∃ ov, ovs'[i]? = some ov := ⟨_, List.getElem?_eq_getElem (by rw [HA'.out.len, HN.out]; exact hlt)⟩
      have hz : (rs.zip ovs)[i]? = some (r, ov) := List.getElem?_zip_eq_some.2 ⟨hr, hov⟩
      have hz' : (rs.zip ovs')[i]? = some (r, ov') := List.getElem?_zip_eq_some.2 ⟨hr, hov'⟩
      obtain ⟨b, off, rfl, hb, hc⟩ := HA.out.row.at hz
      obtain ⟨b', off', rfl, hb', hc'⟩ := HA'.out.row.at hz'
      obtain ⟨A1, c1, rfl, h1⟩ := HA.out.ops i ov r hov hr
      obtain ⟨A2, c2, rfl, h2⟩ := HA'.out.ops i ov' r hov' hr
      have hl16 := HO.out r (List.mem_of_getElem? hr)
      obtain ⟨x0, x1, x2, x3, x4, x5, x6, x7, x8⟩ := r
      obtain ⟨nl, hnl⟩ : ∃ z, z = x7.length := ⟨_, rfl⟩
      simp only at h1 h2 hc hc' hl16
      rw [← hnl] at hc hc' hl16
      unfold logC txnC at hc hc'
      simp only [sliceOf] at hc hc'
      have k0 := hc 0 (by omega)
      have k1 := hc 1 (by omega)
      have k2 := hc 2 (by omega)
      have k3 := hc 3 (by omega)
      have k4 := hc 4 (by omega)
      have k5 := hc 5 (by omega)
      have k6 := hc 6 (by omega)
      have k7 := hc 7 (by omega)
      have q0 := hc' 0 (by omega)
      have q1 := hc' 1 (by omega)
      have q2 := hc' 2 (by omega)
      have q3 := hc' 3 (by omega)
      have q4 := hc' 4 (by omega)
      have q5 := hc' 5 (by omega)
      have q6 := hc' 6 (by omega)
      have q7 := hc' 7 (by omega)
      simp only [List.getElem?_cons_zero, List.getElem?_cons_succ, Nat.add_zero] at k0 k1 k2 k3 k4 k5 k6 k7 q0 q1 q2 q3 q4 q5 q6 q7
      have H1 := Lib.hid h1
      have H2 := Lib.hid h2
      have HNL := Lib.hid hnl.symm
      have hi0 : (0 : Int) ≤ (i : Int) := by omega
      have hi1 : (i : Int) < (n : Int) := by omega
      clear hc hc' hr hov hov' hz hz' HA HA' h1 h2 hnl
      go_wp2_with fail
      go_region_with (go_at_call 41; refine (same_any x0 x1 x2 x3 x4 x5 x6 x7 nl A1 A2 c1 c2 _ HNL.out (by omega) H1.out.drew H2.out.drew).mono ?_; rintro e w5 ⟨rfl, b5⟩; have B5 := Lib.hid (HB.out.drew.trans (b5.mono HB.out.size)))
      all_goals go_wp2_with fail
      all_goals exact ⟨⟨i + 1, by omega, rfl, B5⟩, by show n - ((i : Int) + 1).toNat < n - (i : Int).toNat; omega⟩
    · obtain rfl : i = n := by omega
      go_wp2_with fail
      go_ret
      exact ⟨rfl, HB.out⟩

end Go.Proofs.Ytfodagidmdbmlaa
