/- The document's At and After. -/
import Derived.Test.YtkbnfnfjmofcmaaRs
namespace Go.Proofs.Ytkbnfnfjmofcmaa
set_option linter.unusedVariables false
set_option linter.unusedSimpArgs false
open Go.RowKit

/-- The best of those that p takes: the first, and each that b puts ahead of the best so far. -/
def pickR (p : RV → Bool) (b : Ver → Ver → Bool) (o : Option RV) (x : RV) : Option RV := if p x = true then (match o with | none => some x | some y => if b x.v y.v = true then some x else some y) else o
def bestF (p : RV → Bool) (b : Ver → Ver → Bool) (l : List RV) : Option RV := l.foldl (pickR p b) none
theorem bestF_snoc (p : RV → Bool) (b : Ver → Ver → Bool) (l : List RV) (x : RV) : bestF p b (l ++ [x]) = pickR p b (bestF p b l) x := by
  unfold bestF
  rw [List.foldl_append]
  rfl
def rseen (o : Option RV) : Value := .tuple #[.agg (o.getD RV.zero).cells.toArray, .bool o.isSome]
def atP (k : ByteArray) (t : Int) (x : RV) : Bool := ofKey k x && decide (x.v.commit ≤ t)
def afterP (k : ByteArray) (t : Int) (x : RV) : Bool := ofKey k x && decide (t < x.v.commit)
/-- What the loop has: no best yet, or the b-th. -/
def BestAt (all : List RV) (o : Option RV) (j : Nat) (bi : Int) : Prop := (bi = -1 ∧ o = none) ∨ ∃ (b : Nat) (y : RV), bi = b ∧ b < j ∧ all[b]? = some y ∧ o = some y
theorem BestAt.keep {all : List RV} {o : Option RV} {j : Nat} {bi : Int} (h : BestAt all o j bi) : BestAt all o (j + 1) bi := by
  rcases h with h | ⟨b, y, h1, h2, h3, h4⟩
  · exact .inl h
  · exact .inr ⟨b, y, h1, by omega, h3, h4⟩
set_option maxRecDepth 100000 in
set_option maxHeartbeats 6400000 in
theorem rat_any (G : Nat → Prop) (r N : Nat) (all : List RV) (k : ByteArray) (t : Int) (w : World) (h : RAt G w r N all) (hN : N < 2300000000000) :
    Calls Try.prog 30 #[.pointer (some ⟨r, 0, none⟩), .string k, .int .i64 t] w fun e w' => e = .returned (rseen (bestF (atP k t) aboveB all)) ∧ Below w.heap.size w w' := by
  have hba := (Below.refl w.heap.size w).alloc (Nat.le_refl _) (.cells #[.string ⟨#[]⟩, .int .i64 0, .int .i64 0, .bool false, .string ⟨#[]⟩] 54)
  have rba := RowAt.new w 54 RV.zero.cells
  obtain ⟨W0, hW0⟩ : ∃ WW : World, WW = w.alloc (.cells #[.string ⟨#[]⟩, .int .i64 0, .int .i64 0, .bool false, .string ⟨#[]⟩] 54) := ⟨_, rfl⟩
  rw [show (Obj.cells RV.zero.cells.toArray 54) = .cells #[.string ⟨#[]⟩, .int .i64 0, .int .i64 0, .bool false, .string ⟨#[]⟩] 54 from rfl, ← hW0] at rba
  rw [← hW0] at hba
  have HR := Lib.hid (h.below hba)
  have HW0 := Lib.hid hW0
  obtain ⟨A, cap, m1, m2, m3, m4, m5, m6⟩ := h.below hba
  obtain ⟨n, hn⟩ : ∃ n, n = all.length := ⟨_, rfl⟩
  rw [← hn] at m1 m2 m4 m6
  have HN := Lib.hid hn
  have M1 := Lib.hid m1
  have M2 := Lib.hid m2
  have HB := Lib.hid hba
  have RB := Lib.hid rba
  clear h hba rba hW0 m1 m2 m4 hn
  go_enter Try.func30, Try.ntmps30
  go_wp2_with fail
  rw [← HW0.out]
  go_loopw [8, 9] (fun bv i wr => ∃ (j : Nat) (bi : Int), i = .int .i64 j ∧ bv = .int .i64 bi ∧ j ≤ n ∧ Hid (BestAt all (bestF (atP k t) aboveB (all.take j)) j bi) ∧ Hid (Below W0.heap.size W0 wr)) (fun _ i _ => n - (intOf i).toNat)
  case atStart => exact ⟨0, -1, rfl, rfl, by omega, Lib.hid (.inl ⟨rfl, rfl⟩), Below.refl _ _⟩
  case round =>
    obtain ⟨j, bi, rfl, rfl, hj, HBE, HW⟩ := hrel
    have q0 := (M1.out.below HW.out).cell 0
    simp only [List.getElem?_cons_zero] at q0
    by_cases hlt : j < n
    · obtain ⟨g, x, rfl, hx, x0, x1, x2, x3, x4⟩ := own_rv (Own.below M2.out HW.out) (i := j) (by rw [← HN.out]; exact hlt)
      have HX := Lib.hid hx
      have HST := Lib.hid (show bestF (atP k t) aboveB (all.take (j + 1)) = pickR (atP k t) aboveB (bestF (atP k t) aboveB (all.take j)) x by rw [List.take_add_one, hx, Option.toList_some, bestF_snoc])
      have hba := (Below.refl wr.heap.size wr).alloc (Nat.le_refl _) (.cells #[.string x.key, .int .i64 x.v.commit, .int .i64 x.v.writer, .bool x.v.found, .string x.v.value] 54)
      have HWA := Lib.hid (HW.out.trans (hba.mono HW.out.size))
      have rba := RowAt.new wr 54 (RV.cells x)
      clear hx
      cases hkey : (x.key.toList == k.toList)
      · have HS2 := Lib.hid (HST.out.trans (show pickR _ _ _ _ = _ from if_neg (by unfold atP ofKey; rw [hkey]; simp)))
        clear hba rba
        go_wp2_with fail
        go_quiet (fail)
        go_wp2_with fail
        exact ⟨⟨j + 1, bi, rfl, rfl, by omega, Lib.hid (by rw [HS2.out]; exact HBE.out.keep), belowN HWA.out _⟩, by show n - ((j : Int) + 1).toNat < n - (j : Int).toNat; omega⟩
      · cases hle : decide (x.v.commit ≤ t)
        · have HS2 := Lib.hid (HST.out.trans (show pickR _ _ _ _ = _ from if_neg (by unfold atP ofKey; rw [hkey, hle]; simp)))
          clear hba rba
          go_wp2_with fail
          go_quiet (fail)
          go_wp2_with fail
          exact ⟨⟨j + 1, bi, rfl, rfl, by omega, Lib.hid (by rw [HS2.out]; exact HBE.out.keep), belowN HWA.out _⟩, by show n - ((j : Int) + 1).toNat < n - (j : Int).toNat; omega⟩
        · have HS2 := Lib.hid (HST.out.trans (show pickR _ _ _ _ = _ from if_pos (by unfold atP ofKey; rw [hkey, hle]; rfl)))
          rcases HBE.out with ⟨rfl, ho⟩ | ⟨b, y, rfl, hbj, hy, ho⟩
          · have hneg : decide ((-1 : Int) < 0) = true := by decide
            have HS3 := Lib.hid (show bestF (atP k t) aboveB (all.take (j + 1)) = some x by rw [HS2.out, ho])
            clear hba rba ho
            go_wp2_with fail
            go_quiet (fail)
            go_wp2_with fail
            exact ⟨⟨j + 1, j, rfl, rfl, by omega, Lib.hid (by rw [HS3.out]; exact .inr ⟨j, x, rfl, by omega, HX.out, rfl⟩), belowN HWA.out _⟩, by show n - ((j : Int) + 1).toNat < n - (j : Int).toNat; omega⟩
          · have hneg : decide ((b : Int) < 0) = false := decide_eq_false (by omega)
            have HY := Lib.hid hy
            obtain ⟨W1, hW1⟩ : ∃ WW : World, WW = wr.alloc (.cells #[.string x.key, .int .i64 x.v.commit, .int .i64 x.v.writer, .bool x.v.found, .string x.v.value] 54) := ⟨_, rfl⟩
            rw [← hW1] at hba HWA
            rw [show (Obj.cells (RV.cells x).toArray 54) = .cells #[.string x.key, .int .i64 x.v.commit, .int .i64 x.v.writer, .bool x.v.found, .string x.v.value] 54 from rfl, ← hW1] at rba
            have hfx : ∀ w', Below W1.heap.size W1 w' → w'.cell? ⟨r, 0, none⟩ = some (.slice (some ⟨g, 0, none⟩) n cap) ∧ w'.cell? ⟨wr.heap.size, 0, none⟩ = some (.string x.key) ∧ w'.cell? ⟨wr.heap.size, 1, none⟩ = some (.int .i64 x.v.commit) ∧ w'.cell? ⟨wr.heap.size, 2, none⟩ = some (.int .i64 x.v.writer) ∧ w'.cell? ⟨wr.heap.size, 3, none⟩ = some (.bool x.v.found) ∧ w'.cell? ⟨wr.heap.size, 4, none⟩ = some (.string x.v.value) ∧ w'.cell? ⟨g, b * 5, none⟩ = some (.string y.key) ∧ w'.cell? ⟨g, b * 5 + 1, none⟩ = some (.int .i64 y.v.commit) ∧ w'.cell? ⟨g, b * 5 + 2, none⟩ = some (.int .i64 y.v.writer) ∧ w'.cell? ⟨g, b * 5 + 3, none⟩ = some (.bool y.v.found) ∧ w'.cell? ⟨g, b * 5 + 4, none⟩ = some (.string y.v.value) := by
              intro w' hb
              have hbw := hba.trans (hb.mono hba.size)
              obtain ⟨g2, x2', e2, hx2, z0, z1, z2, z3, z4⟩ := own_rv (Own.below (Own.below M2.out HW.out) hbw) (i := b) (by rw [← HN.out]; omega)
              obtain rfl : g = g2 := by injection e2 with e2; injection e2
              obtain rfl : y = x2' := by rw [HY.out] at hx2; injection hx2
              have rr := rba.below hb
              exact ⟨((M1.out.below HW.out).below hbw).cell 0, rr.cell 0, rr.cell 1, rr.cell 2, rr.cell 3, rr.cell 4, z0, z1, z2, z3, z4⟩
            have HFX := Lib.hid hfx
            have r0 := Lib.hid (Below.refl W1.heap.size W1)
            have r1 := Lib.hid (Below.refl W1.heap.size W1).drew
            have HW1 := Lib.hid hW1
            obtain ⟨ab, hab⟩ : ∃ z, z = aboveB x.v y.v := ⟨_, rfl⟩
            have HAB := Lib.hid hab
            have HO := Lib.hid ho
            have hb1 : (0 : Int) ≤ (b : Int) := by omega
            have hb2 : (b : Int) < (n : Int) := by omega
            clear hfx hba rba hW1 hy hab ho
            go_wp2_with fail
            rw [← HW1.out]
            go_region_held3 (fun w' => w'.cell? ⟨r, 0, none⟩ = some (.slice (some ⟨g, 0, none⟩) n cap) ∧ w'.cell? ⟨wr.heap.size, 0, none⟩ = some (.string x.key) ∧ w'.cell? ⟨wr.heap.size, 1, none⟩ = some (.int .i64 x.v.commit) ∧ w'.cell? ⟨wr.heap.size, 2, none⟩ = some (.int .i64 x.v.writer) ∧ w'.cell? ⟨wr.heap.size, 3, none⟩ = some (.bool x.v.found) ∧ w'.cell? ⟨wr.heap.size, 4, none⟩ = some (.string x.v.value) ∧ w'.cell? ⟨g, b * 5, none⟩ = some (.string y.key) ∧ w'.cell? ⟨g, b * 5 + 1, none⟩ = some (.int .i64 y.v.commit) ∧ w'.cell? ⟨g, b * 5 + 2, none⟩ = some (.int .i64 y.v.writer) ∧ w'.cell? ⟨g, b * 5 + 3, none⟩ = some (.bool y.v.found) ∧ w'.cell? ⟨g, b * 5 + 4, none⟩ = some (.string y.v.value))
              (first | exact HFX.out _ r2.out | exact HFX.out _ r1.out | exact HFX.out _ r0.out)
              (first | (go_at_call 35; refine (above_any x y _).mono ?_; rintro e w4 ⟨he, b4⟩; rw [← HAB.out] at he; subst he; have r2 := Lib.hid (r1.out.trans (b4.mono r1.out.size)); clear b4))
            cases ab with
            | true =>
              have HS3 := Lib.hid (show bestF (atP k t) aboveB (all.take (j + 1)) = some x by rw [HS2.out, HO.out]; exact if_pos HAB.out.symm)
              go_wp2_with fail
              exact ⟨⟨j + 1, j, rfl, rfl, by omega, Lib.hid (by rw [HS3.out]; exact .inr ⟨j, x, rfl, by omega, HX.out, rfl⟩), Lib.hid (HWA.out.trans (r2.out.mono HWA.out.size))⟩, by show n - ((j : Int) + 1).toNat < n - (j : Int).toNat; omega⟩
            | false =>
              have HS3 := Lib.hid (show bestF (atP k t) aboveB (all.take (j + 1)) = some y by rw [HS2.out, HO.out]; exact if_neg (by rw [← HAB.out]; simp))
              go_wp2_with fail
              exact ⟨⟨j + 1, b, rfl, rfl, by omega, Lib.hid (by rw [HS3.out]; exact .inr ⟨b, y, rfl, by omega, HY.out, rfl⟩), Lib.hid (HWA.out.trans (r2.out.mono HWA.out.size))⟩, by show n - ((j : Int) + 1).toNat < n - (j : Int).toNat; omega⟩
    · obtain rfl : j = n := by omega
      have hall : all.take j = all := List.take_of_length_le (by rw [← HN.out]; exact Nat.le_refl _)
      rw [hall] at HBE
      have R1 := Lib.hid (RB.out.below HW.out)
      have cc := R1.out.cell
      have fz := R1.out.frozen
      simp only [RV.cells, RV.zero, Ver.zero] at cc
      have BW := Lib.hid (HB.out.trans (HW.out.mono HB.out.size))
      clear hall
      rcases HBE.out with ⟨rfl, ho⟩ | ⟨b, y, rfl, hbj, hy, ho⟩
      · have hneg : decide ((-1 : Int) < 0) = true := by decide
        have HO := Lib.hid ho
        clear ho
        go_wp2
        have r9 := (R1.out.wset RV.zero.cells 0).congr (cs' := RV.zero.cells) rfl
        refine bodyPost_ret (results_ct (T := 54) Try.results30 _ rfl r9 Try.underlying54 rfl (by kernel_rfl)) rfl ⟨by rw [HO.out]; rfl, ?_⟩
        exact ((((BW.out.setCell (Nat.le_refl _) _).setCell (Nat.le_refl _) _).setCell (Nat.le_refl _) _).setCell (Nat.le_refl _) _).setCell (Nat.le_refl _) _
      · have hneg : decide ((b : Int) < 0) = false := decide_eq_false (by omega)
        obtain ⟨g, y', rfl, hy', y0, y1, y2, y3, y4⟩ := own_rv (Own.below M2.out HW.out) (i := b) (by rw [← HN.out]; omega)
        obtain rfl : y = y' := by rw [hy] at hy'; injection hy'
        have HO := Lib.hid ho
        have hb1 : (0 : Int) ≤ (b : Int) := by omega
        have hb2 : (b : Int) < (j : Int) := by omega
        clear ho hy hy'
        go_wp2
        have r9 := (R1.out.wset y.cells 0).congr (cs' := y.cells) rfl
        refine bodyPost_ret (results_ct (T := 54) Try.results30 _ rfl r9 Try.underlying54 rfl (by kernel_rfl)) rfl ⟨by rw [HO.out]; rfl, ?_⟩
        exact ((((BW.out.setCell (Nat.le_refl _) _).setCell (Nat.le_refl _) _).setCell (Nat.le_refl _) _).setCell (Nat.le_refl _) _).setCell (Nat.le_refl _) _

end Go.Proofs.Ytkbnfnfjmofcmaa
