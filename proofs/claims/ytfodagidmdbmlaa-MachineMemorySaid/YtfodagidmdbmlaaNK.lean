/- Emit. -/
import Derived.Test.YtfodagidmdbmlaaNE
namespace Go.Proofs.Ytfodagidmdbmlaa
set_option linter.unusedVariables false
set_option linter.unusedSimpArgs false
open Go.RowKit

/-- The transactions under way of the first n sessions are aborted. -/
def closeN (M : Mach) : Nat → Mach
  | 0 => M
  | i + 1 => if activeF (closeN M i) i = true then (doF (closeN M i) (aK i)).1 else closeN M i
def emitM (n : Nat) (f : Int) (xs : List MStep) : Mach := closeN (playF (machN n f) xs) n
theorem LogAt.mono {B B' : Nat} {w : World} {v : Value} {rs : List Run} {ovs : List Value} (h : LogAt B w v rs ovs) (hB : B' ≤ B) : LogAt B' w v rs ovs :=
  ⟨Own.mono h.row hB, h.len, fun t ov r h1 h2 => Own.mono (h.ops t ov r h1 h2) hB, h.dst⟩
theorem emit_no (n f : Int) (A : Option Addr) (ln cap : Nat) (w : World) (h : newE n f ≠ 0) : Calls Try.prog 27 #[.int .i64 n, .int .i64 f, .slice A ln cap] w fun e w' => e = .returned (.tuple #[.slice none 0 0, .int .i64 (newE n f)]) ∧ w' = w := by
  have H := Lib.hid h
  obtain ⟨ee, hee⟩ : ∃ z, z = newE n f := ⟨_, rfl⟩
  rw [← hee] at h ⊢
  have hq : (ee == 0) = false := by simpa using h
  have HE := Lib.hid hee
  clear h hee
  go_enter Try.func27, Try.ntmps27
  go_wp2_with fail
  refine (new_no n f w H.out).mono ?_
  rintro e w1 ⟨he, rfl⟩
  rw [← HE.out] at he
  subst he
  go_wp2_with fail
  exact bodyPost_ret (results_tmp2 rfl _ _ _) rfl ⟨rfl, rfl⟩
set_option maxRecDepth 100000 in
set_option maxHeartbeats 4000000 in
theorem emit_any (n : Nat) (f : Int) (A : Option Addr) (ln cap : Nat) (xs : List MStep) (w : World) (h0 : newE n f = 0) (hn : xs.length = ln) (hm : ln < 4000000000000) (hx : ∀ o ∈ xs, o.Fits) (h : SliceRd w A 5 MStep.cells xs) :
    Calls Try.prog 27 #[.int .i64 n, .int .i64 f, .slice A ln cap] w fun e w' => ∃ v ovs, e = .returned (.tuple #[v, .int .i64 0]) ∧ LogAt w.heap.size w' v (runsOf (emitM n f xs)) ovs ∧ Below w.heap.size w w' := by
  have HX := Lib.hid hx
  have HN := Lib.hid hn
  have HR := Lib.hid h
  have H0 := Lib.hid h0
  have hnb : n ≤ 64 := by
    unfold newE at h0
    by_cases h1 : (n : Int) < 1 ∨ 64 < (n : Int)
    · rw [if_pos h1] at h0; cases h0
    · omega
  clear hx hn h h0
  go_enter Try.func27, Try.ntmps27
  go_wp2_with fail
  refine (new_yes n f w H0.out).mono ?_
  rintro e w1 ⟨m, F, rfl, h1, f1, b1⟩
  have H1 := Lib.hid (show MB w.heap.size w1 m (machN n f) from ⟨F, h1, f1⟩)
  have B1 := Lib.hid b1
  clear h1 f1 b1
  go_wp2_with fail
  go_loopw [24] (fun ix wr => ∃ i : Nat, i ≤ ln ∧ ix = .int .i64 i ∧ Hid (MB w.heap.size wr m (playF (machN n f) (xs.take i))) ∧ Hid (Below w.heap.size w wr)) (fun ix _ => ln - (intOf ix).toNat)
  case atStart => exact ⟨0, by omega, rfl, H1.out, B1.out⟩
  case round =>
    clear H1 B1
    obtain ⟨k, hk, rfl, HM, HB⟩ := hrel
    by_cases hlt : k < ln
    · obtain ⟨x, hx⟩ : ∃ x, xs[k]? = some x := ⟨_, List.getElem?_eq_getElem (by rw [HN.out]; exact hlt)⟩
      obtain ⟨b, off, rfl, hb, hc⟩ := (HR.out.below HB.out).at hx
      have FX := Lib.hid (HX.out x (List.mem_of_getElem? hx))
      have HT := Lib.hid (show playF (machN n f) (xs.take (k + 1)) = (doF (playF (machN n f) (xs.take k)) x).1 by
        rw [List.take_add_one, hx, Option.toList_some, playF_snoc])
      obtain ⟨kd, se, ga, ky, va⟩ := x
      have c0 := hc 0 (by omega)
      have c1 := hc 1 (by omega)
      have c2 := hc 2 (by omega)
      have c3 := hc 3 (by omega)
      have c4 := hc 4 (by omega)
      simp only [MStep.cells, List.getElem?_cons_zero, List.getElem?_cons_succ, Nat.add_zero] at c0 c1 c2 c3 c4
      clear hc hx hb
      have hba := (Below.refl wr.heap.size wr).alloc (Nat.le_refl _) (.cells #[.int .i64 kd, .int .i64 se, .int .i64 ga, .string ky, .string va] 29)
      have rba := RowAt.new wr 29 [.int .i64 kd, .int .i64 se, .int .i64 ga, .string ky, .string va]
      have HMA := Lib.hid (HM.out.below hba)
      have BA := Lib.hid (HB.out.trans (hba.mono HB.out.size))
      have d0 := rba.cell 0
      have d1 := rba.cell 1
      have d2 := rba.cell 2
      have d3 := rba.cell 3
      have d4 := rba.cell 4
      simp only [List.getElem?_cons_zero, List.getElem?_cons_succ] at d0 d1 d2 d3 d4
      clear hba rba
      go_wp2_with fail
      refine (do_mb w.heap.size m _ ⟨kd, se, ga, ky, va⟩ _ HMA.out BA.out.size FX.out.2.2.2.1.le FX.out.2.2.2.2.le).mono ?_
      rintro e w5 ⟨rfl, h5, b5⟩
      have H5 := Lib.hid (show MB w.heap.size w5 m (playF (machN n f) (xs.take (k + 1))) by rw [HT.out]; exact h5)
      have B5 := Lib.hid (BA.out.trans b5)
      clear h5 b5 c0 c1 c2 c3 c4 d0 d1 d2 d3 d4
      go_wp2_with fail
      exact ⟨⟨k + 1, by omega, rfl, H5, B5⟩, by show ln - ((k : Int) + 1).toNat < ln - (k : Int).toNat; omega⟩
    · obtain rfl : k = ln := by omega
      have hall : xs.take k = xs := List.take_of_length_le (by rw [HN.out]; exact Nat.le_refl _)
      rw [hall] at HM
      obtain ⟨M0, hM0⟩ : ∃ z, z = playF (machN n f) xs := ⟨_, rfl⟩
      rw [← hM0] at HM
      have HM0 := Lib.hid hM0
      clear hM0
      go_wp2_with fail
      go_loopw [33] (fun ix wr => ∃ i : Nat, i ≤ n ∧ ix = .int .i64 i ∧ Hid (MB w.heap.size wr m (closeN M0 i)) ∧ Hid (Below w.heap.size w wr)) (fun ix _ => n - (intOf ix).toNat)
      case atStart => exact ⟨0, by omega, rfl, HM, HB⟩
      case round =>
        clear HM HB
        obtain ⟨i, hi, rfl, HM, HB⟩ := hrel
        by_cases hlt2 : i < n
        · obtain ⟨M1, hM1⟩ : ∃ z, z = closeN M0 i := ⟨_, rfl⟩
          rw [← hM1] at HM
          have HC := Lib.hid (show closeN M0 (i + 1) = if activeF M1 i = true then (doF M1 (aK i)).1 else M1 by rw [hM1]; rfl)
          clear hM1
          go_wp2_with fail
          refine (active_mb w.heap.size m M1 i _ HM.out).mono ?_
          rintro e w3 ⟨he, rfl⟩
          obtain ⟨ac, hac⟩ : ∃ z, z = activeF M1 i := ⟨_, rfl⟩
          rw [← hac] at he
          subst he
          have HAC := Lib.hid hac
          clear hac
          cases ac with
          | true =>
            have HC2 := Lib.hid (HC.out.trans (if_pos HAC.out.symm))
            go_wp2_with fail
            refine (do_mb w.heap.size m M1 (aK i) _ HM.out HB.out.size (show (0 : Nat) ≤ maxLen from Nat.zero_le _) (show (0 : Nat) ≤ maxLen from Nat.zero_le _)).mono ?_
            rintro e w4 ⟨rfl, h4, b4⟩
            have H4 := Lib.hid (show MB w.heap.size w4 m (closeN M0 (i + 1)) by rw [HC2.out]; exact h4)
            have B4 := Lib.hid (HB.out.trans b4)
            clear h4 b4
            go_wp2_with fail
            exact ⟨⟨i + 1, by omega, rfl, H4, B4⟩, by show n - ((i : Int) + 1).toNat < n - (i : Int).toNat; omega⟩
          | false =>
            have HC2 := Lib.hid (HC.out.trans (if_neg (by rw [← HAC.out]; simp)))
            go_wp2_with fail
            exact ⟨⟨i + 1, by omega, rfl, by rw [HC2.out]; exact HM, HB⟩, by show n - ((i : Int) + 1).toNat < n - (i : Int).toNat; omega⟩
        · obtain rfl : i = n := by omega
          go_wp2_with fail
          refine (log_mb w.heap.size m _ _ HM.out).mono ?_
          rintro e w5 ⟨v, ovs, rfl, h5, b5⟩
          have L5 := Lib.hid (h5.mono HB.out.size)
          have B5 := Lib.hid (HB.out.trans (b5.mono HB.out.size))
          clear h5 b5
          go_wp2_with fail
          refine bodyPost_ret (results_tmp2 rfl _ _ _) rfl ⟨v, ovs, rfl, ?_, B5.out⟩
          unfold emitM
          rw [← HM0.out]
          exact L5.out

end Go.Proofs.Ytfodagidmdbmlaa
