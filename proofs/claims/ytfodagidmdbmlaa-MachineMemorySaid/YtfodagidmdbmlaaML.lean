/- Log. -/
import Derived.Test.YtfodagidmdbmlaaMN
namespace Go.Proofs.Ytfodagidmdbmlaa
set_option linter.unusedVariables false
set_option linter.unusedSimpArgs false
open Go.RowKit

theorem own_none (w : World) : Own (w.alloc (.cells #[] 67)) w.heap.size 67 4 MOp.cells (.slice (some ⟨w.heap.size, 0, none⟩) 0 0) [] :=
  RowAt.own (RowAt.new w 67 []) (Nat.le_refl _) rfl (by decide)
def runsOf (M : Mach) : List Run := M.ends.map fun i => M.all.getD i Run.zero
/-- The logged transactions in memory of the call's own. -/
structure LogAt (B : Nat) (w : World) (v : Value) (rs : List Run) (ovs : List Value) : Prop where
  row : Own w B 55 8 logC v (rs.zip ovs)
  len : ovs.length = rs.length
  ops : ∀ (t : Nat) (ov : Value) (r : Run), ovs[t]? = some ov → rs[t]? = some r → Own w B 67 4 MOp.cells ov r.ops
  dst : ∀ (s t : Nat) (a b : Value), s ≠ t → ovs[s]? = some a → ovs[t]? = some b → ∀ g, a.ownBlock = some g → b.ownBlock ≠ some g
theorem LogAt.below {B : Nat} {w w' : World} {v : Value} {rs : List Run} {ovs : List Value} (h : LogAt B w v rs ovs) (hb : Below w.heap.size w w') : LogAt B w' v rs ovs :=
  ⟨Own.below h.row hb, h.len, fun t ov r h1 h2 => Own.below (h.ops t ov r h1 h2) hb, h.dst⟩
theorem own_log {w : World} {base : Nat} {A : Option Addr} {n cap : Nat} {l : List (Run × Value)} (h : Own w base 55 8 logC (.slice A n cap) l) {i : Nat} (hi : i < l.length) :
    ∃ g x, A = some ⟨g, 0, none⟩ ∧ l[i]? = some x ∧ ∀ j, j < 8 → w.cell? ⟨g, i * 8 + j, none⟩ = (logC x)[j]? := by
  rcases h.cases with ⟨h, rfl⟩ | ⟨g, cap, rest, e1, h2, h3, h4, h5⟩
  · simp at hi
  · injection e1 with e1 e2 e3
    have hx : l[i]? = some l[i] := List.getElem?_eq_getElem hi
    have e : ∀ j, j < 8 → w.cell? ⟨g, i * 8 + j, none⟩ = (logC l[i])[j]? := fun j hj => by
      rw [h5.cell, List.getElem?_append_left (by rw [flat_length logC_len]; omega)]
      exact flat_at logC_len l i j hj hx
    exact ⟨g, l[i], e1, hx, e⟩
set_option maxRecDepth 100000 in
set_option maxHeartbeats 8000000 in
theorem log_any (m : Nat) (M : Mach) (gs p : Nat) (lv : Value) (pl : List Pl) (Fs : Nat → Prop) (N : Nat) (w : World) (h : MachAt w m M gs p lv pl Fs N) (hi : MOK M) :
    Calls Try.prog 22 #[.pointer (some ⟨m, 0, none⟩)] w fun e w' => ∃ v ovs, e = .returned v ∧ LogAt w.heap.size w' v (runsOf M) ovs ∧ Below w.heap.size w w' := by
  have H := Lib.hid h
  have hlog := h.log
  obtain ⟨A, c, hlv⟩ := own_forms hlog
  obtain ⟨n, hn⟩ : ∃ n, n = (logOf M pl).length := ⟨_, rfl⟩
  rw [← hn] at hlv
  subst hlv
  have hn4 : n ≤ 4096 := by rw [hn]; unfold logOf; rw [List.length_map]; exact Nat.le_trans hi.ends hi.inv.cnt
  have hrl : (runsOf M).length = n := by rw [hn]; unfold logOf runsOf; rw [List.length_map, List.length_map]
  have HLOG := Lib.hid hlog
  have HN := Lib.hid hn
  have HRL := Lib.hid hrl
  -- each entry is a transaction, with its operations
  have hent : ∀ (i : Nat) (x : Run × Value), (logOf M pl)[i]? = some x → (runsOf M)[i]? = some x.1 ∧ OOwn w x.2 x.1.ops ∧ x.1.ops.length ≤ 16 := by
    intro i x hx
    unfold logOf at hx
    unfold runsOf
    rw [List.getElem?_map] at hx ⊢
    obtain ⟨j, hj, rfl⟩ := Option.map_eq_some_iff.1 hx
    have hjl := hi.endl j (List.mem_of_getElem? hj)
    have hr : M.all[j]? = some (M.all[j]) := List.getElem?_eq_getElem hjl
    have hg : M.all.getD j Run.zero = M.all[j] := by rw [List.getD_eq_getElem?_getD, hr]; rfl
    rw [hj, hg]
    exact ⟨by rw [Option.map_some, hg], (h.place hr).2.ops, (hi.inv.ops j _ hr).1⟩
  have HENT := Lib.hid hent
  have m5 := h.row.cell 5
  simp only [rowM, List.getElem?_cons_zero, List.getElem?_cons_succ] at m5
  clear h hi hlog hn hrl hent
  go_enter Try.func22, Try.ntmps22
  go_wp2_with fail
  go_loopw [3, 11] (fun out ix wr => ∃ (i : Nat) (B : Option Addr) (bc : Nat) (ovs : List Value), i ≤ n ∧ ix = .int .i64 i ∧ out = .slice B i bc ∧ Hid (LogAt w.heap.size wr (.slice B i bc) ((runsOf M).take i) ovs) ∧ Hid (Below w.heap.size w wr)) (fun _ ix _ => n - (intOf ix).toNat)
  case atStart => exact ⟨0, none, 0, [], by omega, rfl, rfl, ⟨Own.nil _ _ _ _ _, rfl, fun t ov r h1 => by simp at h1, fun s t a b hst h1 => by simp at h1⟩, Below.refl _ _⟩
  case round =>
    clear m5
    obtain ⟨i, B, bc, ovs, hi, rfl, rfl, HL, HW⟩ := hrel
    by_cases hlt : i < n
    · obtain ⟨g, ⟨r, ov⟩, rfl, hx, hc⟩ := own_log (Own.below HLOG.out HW.out) (i := i) (by rw [← HN.out]; exact hlt)
      obtain ⟨e1, e2, e3⟩ := HENT.out i _ hx
      simp only at e1 e2 e3
      obtain ⟨A1, c1, hov⟩ := own_forms e2
      obtain ⟨n1, hn1⟩ : ∃ z, z = r.ops.length := ⟨_, rfl⟩
      rw [← hn1] at hov e3
      subst hov
      have HE1 := Lib.hid e1
      have HE2 := Lib.hid (Own.below e2 HW.out)
      have HN1 := Lib.hid hn1
      obtain ⟨x0, hx0⟩ : ∃ z, z = r.session := ⟨_, rfl⟩
      obtain ⟨x1, hx1⟩ : ∃ z, z = r.seq := ⟨_, rfl⟩
      obtain ⟨x2, hx2⟩ : ∃ z, z = r.start := ⟨_, rfl⟩
      obtain ⟨x3, hx3⟩ : ∃ z, z = r.fin := ⟨_, rfl⟩
      obtain ⟨x4, hx4⟩ : ∃ z, z = r.invoke := ⟨_, rfl⟩
      obtain ⟨x5, hx5⟩ : ∃ z, z = r.ret := ⟨_, rfl⟩
      obtain ⟨x6, hx6⟩ : ∃ z, z = r.status := ⟨_, rfl⟩
      have TX := Lib.hid (show ∀ v, logC (r, v) = [.int .i64 x0, .int .i64 x1, .int .i64 x2, .int .i64 x3, .int .i64 x4, .int .i64 x5, .int .i64 x6, sliceOf v] from fun v => by unfold logC txnC; rw [hx0, hx1, hx2, hx3, hx4, hx5, hx6])
      rw [TX.out] at hc
      clear e1 e2 hn1 hx hx0 hx1 hx2 hx3 hx4 hx5 hx6
      have k0 := hc 0 (by omega)
      have k1 := hc 1 (by omega)
      have k2 := hc 2 (by omega)
      have k3 := hc 3 (by omega)
      have k4 := hc 4 (by omega)
      have k5 := hc 5 (by omega)
      have k6 := hc 6 (by omega)
      have k7 := hc 7 (by omega)
      simp only [sliceOf, List.getElem?_cons_zero, List.getElem?_cons_succ, Nat.add_zero] at k0 k1 k2 k3 k4 k5 k6 k7
      clear hc
      have hi0 : (0 : Int) ≤ (i : Int) := by omega
      have hi1 : (i : Int) < (n : Int) := by omega
      -- the copy of the row
      have hbt := (Below.refl wr.heap.size wr).alloc (Nat.le_refl _) (.cells #[.int .i64 x0, .int .i64 x1, .int .i64 x2, .int .i64 x3, .int .i64 x4, .int .i64 x5, .int .i64 x6, .slice A1 n1 c1] 55)
      have rbt := RowAt.new wr 55 [.int .i64 x0, .int .i64 x1, .int .i64 x2, .int .i64 x3, .int .i64 x4, .int .i64 x5, .int .i64 x6, .slice A1 n1 c1]
      have al7 : ∀ o, ((wr.alloc (.cells #[.int .i64 x0, .int .i64 x1, .int .i64 x2, .int .i64 x3, .int .i64 x4, .int .i64 x5, .int .i64 x6, .slice A1 n1 c1] 55)).alloc o).cell? ⟨wr.heap.size, 7, none⟩ = some (.slice A1 n1 c1) := fun o => (rbt.alloc o).cell 7
      obtain ⟨Wt, hWt⟩ : ∃ WW : World, WW = wr.alloc (.cells #[.int .i64 x0, .int .i64 x1, .int .i64 x2, .int .i64 x3, .int .i64 x4, .int .i64 x5, .int .i64 x6, .slice A1 n1 c1] 55) := ⟨_, rfl⟩
      have hbe := hbt.alloc hbt.size (.cells #[] 67)
      have rte := rbt.alloc (.cells #[] 67)
      have oe := own_none (wr.alloc (.cells #[.int .i64 x0, .int .i64 x1, .int .i64 x2, .int .i64 x3, .int .i64 x4, .int .i64 x5, .int .i64 x6, .slice A1 n1 c1] 55))
      rw [show (wr.alloc (.cells #[.int .i64 x0, .int .i64 x1, .int .i64 x2, .int .i64 x3, .int .i64 x4, .int .i64 x5, .int .i64 x6, .slice A1 n1 c1] 55)).heap.size = wr.heap.size + 1 by simp] at oe
      have OE := Lib.hid oe
      clear oe
      have HRD := Lib.hid (Own.read (Own.below HE2.out hbe))
      have HLE := Lib.hid (HL.out.below hbe)
      have HWE := Lib.hid (HW.out.trans (hbe.mono HW.out.size))
      have RTE := Lib.hid rte
      have hwz := HW.out.size
      have HBS2 := Lib.hid (show ([] : List MOp).length + r.ops.length ≤ maxLen ∧ (([] : List MOp).length + r.ops.length) * 48 ≤ 140737488355328 by rw [← HN1.out]; unfold maxLen; simp; omega)
      have HBS := Lib.hid (show 0 + n1 ≤ maxLen ∧ (0 + n1) * 48 ≤ 140737488355328 by unfold maxLen; omega)
      clear hbt rbt hbe rte hWt
      go_wp2_with (at_builtin; refine cat_list MOp.cells 67 53 53 67 (.agg MOp.zero.cells.toArray) 4 48 Try.underlying53 Try.underlying53 (by kernel_rfl) rfl (by decide) MOp.len op_one _ _ (by rfl) (by rfl) (wr.heap.size + 1) (.slice (some ⟨wr.heap.size + 1, 0, none⟩) 0 0) [] r.ops (by rfl) OE.out (.slice A1 n1 c1) (by rfl) HRD.out ?_ ?_ (by simp) ?_)
      · exact HBS2.out.1
      · exact HBS2.out.2
      · intro v6 w6 o6 g6 l6
        have O6 := Lib.hid (show Own w6 (wr.heap.size + 1) 67 4 MOp.cells v6 r.ops from by simpa using o6)
        have hb6 : Below w.heap.size w w6 := HWE.out.grown g6 (by simp; omega) (fun k hk => by simp [Value.ownBlock] at hk; omega)
        have t6 : Turn (fun k => k = wr.heap.size + 1) ((wr.alloc (.cells #[.int .i64 x0, .int .i64 x1, .int .i64 x2, .int .i64 x3, .int .i64 x4, .int .i64 x5, .int .i64 x6, .slice A1 n1 c1] 55)).alloc (.cells #[] 67)) w6 := (Turn.refl (fun k => k = wr.heap.size + 1) _).grown g6 fun k hk => .inl (by simp [Value.ownBlock] at hk; omega)
        have rt6 := RTE.out.turn t6 (by omega)
        obtain ⟨A6, c6, rfl⟩ := own_forms O6.out
        rw [← HN1.out] at O6 l6 ⊢
        have c7 := rt6.cell 7
        have f7 := rt6.frozen 7
        simp only [List.getElem?_cons_zero, List.getElem?_cons_succ] at c7
        have hb7 : Below w.heap.size w (w6.setCell ⟨wr.heap.size, 7, none⟩ (.slice A6 n1 c6)) := hb6.setCell (p := ⟨wr.heap.size, 7, none⟩) hwz _
        have t7 : Turn (fun k => k = wr.heap.size) w6 (w6.setCell ⟨wr.heap.size, 7, none⟩ (.slice A6 n1 c6)) := Turn.setCell (S := fun k => k = wr.heap.size) (p := ⟨wr.heap.size, 7, none⟩) (Turn.refl _ _) (.inl rfl) _
        have rt7 := rt6.set 7 (.slice A6 n1 c6)
        have o7 := Own.turn O6.out t7 fun g hg e => by have := (Own.base O6.out g hg).1; omega
        have hlb : ∀ x ∈ [Value.slice B i bc], ∀ g, x.ownBlock = some g → g < wr.heap.size := fun x hx g hg => by
          rw [List.mem_singleton] at hx
          subst hx
          exact (Own.base HL.out.row g hg).2
        have hol : ∀ (t : Nat) (ov : Value), ovs[t]? = some ov → ∀ g, ov.ownBlock = some g → g < wr.heap.size := fun t ov ht g hg => by
          have htl := (List.getElem?_eq_some_iff.1 ht).1
          have hr : ((runsOf M).take i)[t]? = some _ := List.getElem?_eq_getElem (by rw [← HL.out.len]; exact htl)
          exact (Own.base (HL.out.ops t ov _ ht hr) g hg).2
        have hl7 : LogAt w.heap.size (w6.setCell ⟨wr.heap.size, 7, none⟩ (.slice A6 n1 c6)) (.slice B i bc) ((runsOf M).take i) ovs := by
          have tt := (t6.mono (S' := fun k => wr.heap.size ≤ k) fun k _ e => by omega).trans (t7.mono fun k _ (e : k = wr.heap.size) => by omega)
          exact ⟨Own.turn HLE.out.row tt fun g hg e => by have := hlb _ (by simp) g hg; omega, HLE.out.len, fun t ov r h1 h2 => Own.turn (HLE.out.ops t ov r h1 h2) tt fun g hg e => by have := hol t ov h1 g hg; omega, HLE.out.dst⟩
        have hwr7 : wr.heap.size < (w6.setCell ⟨wr.heap.size, 7, none⟩ (.slice A6 n1 c6)).heap.size := rt7.lt
        obtain ⟨W7, hW7⟩ : ∃ WW : World, WW = w6.setCell ⟨wr.heap.size, 7, none⟩ (.slice A6 n1 c6) := ⟨_, rfl⟩
        rw [← hW7] at hb7 rt7 o7 hl7 hwr7
        have HB7 := Lib.hid hb7
        have RT7 := Lib.hid rt7
        have O7 := Lib.hid o7
        have HL7 := Lib.hid hl7
        have e0 := rt7.cell 0
        have e1 := rt7.cell 1
        have e2 := rt7.cell 2
        have e3 := rt7.cell 3
        have e4 := rt7.cell 4
        have e5 := rt7.cell 5
        have e6 := rt7.cell 6
        have e7 := rt7.cell 7
        simp only [List.set_cons_succ, List.set_cons_zero, List.getElem?_cons_zero, List.getElem?_cons_succ] at e0 e1 e2 e3 e4 e5 e6 e7
        rw [hW7] at e0 e1 e2 e3 e4 e5 e6 e7
        have hzl : (((runsOf M).take i).zip ovs).length = i := by rw [List.length_zip, HL.out.len, List.length_take, HRL.out]; omega
        have HZL := Lib.hid hzl
        have HOA := Lib.hid (hl7.row.alloc (.cells #[.int .i64 x0, .int .i64 x1, .int .i64 x2, .int .i64 x3, .int .i64 x4, .int .i64 x5, .int .i64 x6, .slice A6 n1 c6] 55))
        have RBA := Lib.hid (show RowAt (W7.alloc (.cells #[.int .i64 x0, .int .i64 x1, .int .i64 x2, .int .i64 x3, .int .i64 x4, .int .i64 x5, .int .i64 x6, .slice A6 n1 c6] 55)) W7.heap.size 55 (logC (r, .slice A6 n1 c6)) by rw [TX.out]; exact RowAt.new W7 55 _)
        have HSL := Lib.hid (show (((runsOf M).take i).zip ovs).length + 1 ≤ maxLen ∧ ((((runsOf M).take i).zip ovs).length + 1) * 80 ≤ 140737488355328 by rw [hzl]; unfold maxLen; omega)
        have HWB := Lib.hid (show w.heap.size ≤ (W7.alloc (.cells #[.int .i64 x0, .int .i64 x1, .int .i64 x2, .int .i64 x3, .int .i64 x4, .int .i64 x5, .int .i64 x6, .slice A6 n1 c6] 55)).heap.size by simp; omega)
        have HN6 := Lib.hid (show ∀ g, (Value.slice A6 n1 c6).ownBlock = some g → wr.heap.size < g ∧ g < W7.heap.size from fun g hg => ⟨(Own.base O6.out g hg).1, (Own.base o7 g hg).2⟩)
        have HOL := Lib.hid hol
        have HLB := Lib.hid hlb
        clear hb6 t6 rt6 t7 rt7 o7 hlb hol hl7 hb7 o6 g6 l6 hzl al7 k0 k1 k2 k3 k4 k5 k6 k7
        have HSZ := Lib.hid (show W7.heap.size = w6.heap.size by rw [hW7]; simp)
        have hsz := HSZ.out
        subst hW7
        go_wp2_with (first | (refine push_list logC 55 44 55 (.agg #[.int .i64 0, .int .i64 0, .int .i64 0, .int .i64 0, .int .i64 0, .int .i64 0, .int .i64 0, .slice none 0 0]) 8 80 Try.underlying44 (by kernel_rfl) rfl (by decide) logC_len logC_one _ _ (by rfl) (by rfl) w.heap.size (.slice B i bc) (((runsOf M).take i).zip ovs) (r, .slice A6 n1 c6) (by rfl) HOA.out w6.heap.size 1 (by rfl) (by rw [← HSZ.out]; exact RBA.out) HSL.out.1 HSL.out.2 HWB.out (w6.heap.size + 1) (by simp) ?_; intro g8 cap8 w8 o8 g8' l8 l9; have O8 := Lib.hid o8; have G8 := Lib.hid g8'; have L8 := Lib.hid l8; clear o8 g8' l8 l9))
        have hz := HZL.out
        have htk : (runsOf M).take (i + 1) = (runsOf M).take i ++ [r] := by rw [List.take_add_one, HE1.out]; rfl
        have hzp : ((runsOf M).take (i + 1)).zip (ovs ++ [.slice A6 n1 c6]) = ((runsOf M).take i).zip ovs ++ [(r, .slice A6 n1 c6)] := by
          rw [htk, List.zip_append HL.out.len.symm]
          rfl
        have tg := (Turn.refl (fun k => (Value.slice B i bc).ownBlock = some k) _).grown G8.out fun k hk => .inl hk
        have hlen : ovs.length = i := by rw [HL.out.len, List.length_take, HRL.out]; omega
        refine ⟨⟨i + 1, some ⟨g8, 0, none⟩, cap8, ovs ++ [.slice A6 n1 c6], by omega, rfl, ?_, Lib.hid ⟨?_, ?_, fun t ov r' h1 h2 => ?_, fun s t a b hst h1 h2 g hg hb => ?_⟩, Lib.hid ?_⟩, by show n - ((i : Int) + 1).toNat < n - (i : Int).toNat; omega⟩
        · have e : min i (min (runsOf M).length ovs.length) = i := by rw [HRL.out, hlen]; omega
          rw [e]
        · have o8 := O8.out
          rw [hz, ← hzp] at o8
          exact o8
        · rw [htk, List.length_append, List.length_append, HL.out.len]
          rfl
        · rw [htk] at h2
          by_cases e : t < i
          · rw [List.getElem?_append_left (by omega)] at h1
            rw [List.getElem?_append_left (by rw [← HL.out.len]; omega)] at h2
            have hop := (HL7.out.ops t ov r' h1 h2).alloc (.cells #[.int .i64 x0, .int .i64 x1, .int .i64 x2, .int .i64 x3, .int .i64 x4, .int .i64 x5, .int .i64 x6, .slice A6 n1 c6] 55)
            exact Own.turn hop tg fun g hg => own_two hop HOA.out (by decide) g hg
          · have e1 : t = i := by
              have := (List.getElem?_eq_some_iff.1 h1).1
              rw [List.length_append, List.length_singleton] at this
              omega
            subst e1
            rw [List.getElem?_append_right (by omega), hlen, Nat.sub_self] at h1
            rw [List.getElem?_append_right (by rw [← HL.out.len]; omega), ← HL.out.len, hlen, Nat.sub_self] at h2
            injection h1 with h1
            injection h2 with h2
            subst h1
            subst h2
            have hop := O7.out.alloc (.cells #[.int .i64 x0, .int .i64 x1, .int .i64 x2, .int .i64 x3, .int .i64 x4, .int .i64 x5, .int .i64 x6, .slice A6 n1 c6] 55)
            exact Own.mono (Own.turn hop tg fun g hg => own_two hop HOA.out (by decide) g hg) (by omega)
        · by_cases es : s < i
          · rw [List.getElem?_append_left (by omega)] at h1
            by_cases et : t < i
            · rw [List.getElem?_append_left (by omega)] at h2
              exact HL.out.dst s t a b hst h1 h2 g hg hb
            · rw [List.getElem?_append_right (by omega)] at h2
              have hm := List.mem_of_getElem? h2
              rw [List.mem_singleton] at hm
              subst hm
              have h3 := (HN6.out g hb).1
              have h4 := HOL.out s a h1 g hg
              omega
          · rw [List.getElem?_append_right (by omega)] at h1
            have hm := List.mem_of_getElem? h1
            rw [List.mem_singleton] at hm
            have h1l := (List.getElem?_eq_some_iff.1 h1).1
            simp at h1l
            subst hm
            have h3 := (HN6.out g hg).1
            by_cases et : t < i
            · rw [List.getElem?_append_left (by omega)] at h2
              have h4 := HOL.out t b h2 g hb
              omega
            · rw [List.getElem?_append_right (by omega)] at h2
              have h2l := (List.getElem?_eq_some_iff.1 h2).1
              simp at h2l
              omega
        · exact (HB7.out.alloc HB7.out.size _).grown G8.out HWB.out fun k hk => (Own.base HL.out.row k hk).1
    · obtain rfl : i = n := by omega
      have hall : (runsOf M).take i = runsOf M := List.take_of_length_le (by rw [HRL.out]; exact Nat.le_refl _)
      rw [hall] at HL
      go_wp2_with fail
      go_ret
      exact ⟨_, ovs, rfl, HL.out, HW.out⟩

end Go.Proofs.Ytfodagidmdbmlaa
