/- ahead and dirty. -/
import Derived.Test.YtfodagidmdbmlaaM5
namespace Go.Proofs.Ytfodagidmdbmlaa
set_option linter.unusedVariables false
set_option linter.unusedSimpArgs false
open Go.RowKit

/-- The version ahead of the one seen, looked for from place i down. -/
def aheadN (l : List Ver) (t : Int) : Nat → Ver
  | 0 => Ver.zero
  | i + 1 => if (l.getD (i + 1) Ver.zero).commit ≤ t then l.getD i Ver.zero else aheadN l t i
def verV (v : Ver) : Value := .agg #[.int .i64 v.commit, .int .i64 v.writer, .bool v.found, .string v.value]
set_option maxRecDepth 100000 in
set_option maxHeartbeats 4000000 in
theorem ahead_any (m : Nat) (M : Mach) (gs p : Nat) (lv : Value) (pl : List Pl) (Fs : Nat → Prop) (N : Nat) (k : ByteArray) (t : Int) (w : World) (h : MachAt w m M gs p lv pl Fs N) (hk : k.size ≤ maxLen) (hN : N < 3000000000000) :
    Calls Try.prog 46 #[.pointer (some ⟨m, 0, none⟩), .string k, .int .i64 t] w fun e w' => e = .returned (verV (aheadN (M.st.2 k) t ((M.st.2 k).length - 1))) ∧ Below w.heap.size w w' := by
  have hba := (Below.refl w.heap.size w).alloc (Nat.le_refl _) (.cells #[.int .i64 0, .int .i64 0, .bool false, .string ⟨#[]⟩] 93)
  have rba := RowAt.new w 93 Ver.zero.cells
  have H := Lib.hid (h.below hba)
  have HB := Lib.hid hba
  have RB := Lib.hid rba
  have HK := Lib.hid hk
  have p4 := H.out.row.cell 4
  simp only [rowM, List.getElem?_cons_zero, List.getElem?_cons_succ] at p4
  obtain ⟨res, hres⟩ : ∃ z, z = aheadN (M.st.2 k) t ((M.st.2 k).length - 1) := ⟨_, rfl⟩
  rw [← hres]
  have HRES := Lib.hid hres
  clear h hba rba hk hres
  go_enter Try.func46, Try.ntmps46
  go_wp2_with fail
  refine (chain_any Fs p M.st.1 N M.st.2 k _ H.out.sto HK.out hN).mono ?_
  rintro e w2 ⟨v, rfl, o2, b2⟩
  have hlN : (M.st.2 k).length ≤ N := by
    obtain ⟨b, n, f, -, -, -, -, -, -, -, -, h9⟩ := H.out.sto
    exact h9 k
  obtain ⟨A, c, rfl⟩ := own_forms o2
  obtain ⟨l, hl⟩ : ∃ l, l = M.st.2 k := ⟨_, rfl⟩
  rw [← hl] at o2 hlN HRES ⊢
  obtain ⟨n, hn⟩ : ∃ n, n = l.length := ⟨_, rfl⟩
  rw [← hn] at o2 hlN HRES ⊢
  have HN := Lib.hid hn
  have O2 := Lib.hid (Own.mono o2 (Nat.zero_le _))
  have B2 := Lib.hid (HB.out.trans (b2.mono HB.out.size))
  have R2 := Lib.hid (RB.out.below b2)
  clear hl hn o2 b2 p4
  rcases Nat.eq_zero_or_pos n with h0 | h0
  · subst h0
    have R3 := R2.out
    go_wp2_with fail
    go_loopw [8] (fun i wr => i = .int .i64 (-1) ∧ Hid (Below w2.heap.size w2 wr)) (fun i _ => 0)
    case atStart => exact ⟨rfl, Below.refl _ _⟩
    case round =>
      obtain ⟨rfl, HW⟩ := hrel
      have rz := R2.out.below HW.out
      have zc := rz.cell
      have zf := rz.frozen
      simp only [Ver.cells, Ver.zero] at zc
      have RZ := Lib.hid rz
      have BZ := Lib.hid (B2.out.trans (HW.out.mono B2.out.size))
      have hd : decide ((-1 : Int) > 0) = false := by decide
      clear rz R3
      go_wp2
      have r9 := (RZ.out.wset Ver.zero.cells 0).congr (cs' := Ver.zero.cells) rfl
      refine bodyPost_ret (results_c (T := 93) Try.results46 _ rfl r9 Try.underlying93 rfl (by kernel_rfl)) rfl ⟨by rw [HRES.out]; rfl, ?_⟩
      exact (((BZ.out.setCell (Nat.le_refl _) _).setCell (Nat.le_refl _) _).setCell (Nat.le_refl _) _).setCell (Nat.le_refl _) _
  obtain ⟨n', hn'⟩ : ∃ n', n' = n - 1 := ⟨_, rfl⟩
  rw [← hn'] at HRES
  have hnn : n' + 1 = n := by omega
  have hw1 : IntKind.i64.wrap ((n : Int) - 1) = (n' : Int) := by rw [wrap_in (by omega) (by omega)]; omega
  have HNN := Lib.hid hnn
  clear hn'
  go_wp2_with fail
  go_loopw [8] (fun i wr => ∃ j : Nat, j ≤ n' ∧ i = .int .i64 j ∧ Hid (aheadN l t n' = aheadN l t j) ∧ Hid (Below w2.heap.size w2 wr)) (fun i _ => (intOf i).toNat)
  case atStart => exact ⟨n', by omega, rfl, rfl, Below.refl _ _⟩
  case round =>
    obtain ⟨j, hj1, rfl, HJ, HW⟩ := hrel
    have rz := R2.out.below HW.out
    have zc := rz.cell
    have zf := rz.frozen
    simp only [Ver.cells, Ver.zero] at zc
    have RZ := Lib.hid rz
    have BZ := Lib.hid (B2.out.trans (HW.out.mono B2.out.size))
    clear rz
    by_cases hlt : 0 < j
    · obtain ⟨i, hi⟩ : ∃ i : Nat, j = i + 1 := ⟨j - 1, by omega⟩
      have hd : decide ((j : Int) > 0) = true := decide_eq_true (by omega)
      obtain ⟨g, x, rfl, hx, x0, -⟩ := VersAt.cells (VOwn.vers (Own.below O2.out HW.out)) (i := j) (by rw [← HN.out]; omega)
      obtain ⟨g', y, e1, hy, y0, y1, y2, y3⟩ := VersAt.cells (VOwn.vers (Own.below O2.out HW.out)) (i := i) (by rw [← HN.out]; omega)
      obtain rfl : g = g' := by injection e1 with e1; injection e1
      have hw2 : IntKind.i64.wrap ((j : Int) - 1) = (i : Int) := by rw [wrap_in (by omega) (by omega)]; omega
      have hj0 : (0 : Int) ≤ (j : Int) := by omega
      have hj2 : (j : Int) < (n : Int) := by omega
      have hi3 : (0 : Int) ≤ (i : Int) := by omega
      have hi4 : (i : Int) < (n : Int) := by omega
      have hin : i ≤ n' := by omega
      have hij : (i : Int).toNat < (j : Int).toNat := by omega
      have hgx : l.getD j Ver.zero = x := by rw [List.getD_eq_getElem?_getD, hx]; rfl
      have hgy : l.getD i Ver.zero = y := by rw [List.getD_eq_getElem?_getD, hy]; rfl
      have hst : aheadN l t j = if x.commit ≤ t then y else aheadN l t i := by
        rw [hi]
        show (if _ then _ else _) = _
        rw [← hi, hgx, hgy]
      have HST := Lib.hid hst
      clear hgx hgy hx hy hst hi hnn
      by_cases hc : x.commit ≤ t
      · have hA := Lib.hid (show aheadN l t n' = y by rw [HJ.out, HST.out, if_pos hc])
        go_wp2
        have r9 := (RZ.out.wset y.cells 0).congr (cs' := y.cells) rfl
        refine bodyPost_ret (results_c (T := 93) Try.results46 _ rfl r9 Try.underlying93 rfl (by kernel_rfl)) rfl ⟨by rw [HRES.out, hA.out]; rfl, ?_⟩
        exact (((BZ.out.setCell (Nat.le_refl _) _).setCell (Nat.le_refl _) _).setCell (Nat.le_refl _) _).setCell (Nat.le_refl _) _
      · have hA := Lib.hid (show aheadN l t n' = aheadN l t i by rw [HJ.out, HST.out, if_neg hc])
        go_wp2_with fail
        exact ⟨⟨i, hin, rfl, hA, HW⟩, hij⟩
    · obtain rfl : j = 0 := by omega
      have hA := Lib.hid (show aheadN l t n' = Ver.zero from HJ.out)
      go_wp2
      have r9 := (RZ.out.wset Ver.zero.cells 0).congr (cs' := Ver.zero.cells) rfl
      refine bodyPost_ret (results_c (T := 93) Try.results46 _ rfl r9 Try.underlying93 rfl (by kernel_rfl)) rfl ⟨by rw [HRES.out, hA.out]; rfl, ?_⟩
      exact (((BZ.out.setCell (Nat.le_refl _) _).setCell (Nat.le_refl _) _).setCell (Nat.le_refl _) _).setCell (Nat.le_refl _) _

end Go.Proofs.Ytfodagidmdbmlaa
