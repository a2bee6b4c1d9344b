/- The document's Prune. -/
import Derived.Test.YtkbnfnfjmofcmaaRw
import Derived.Deep.CutRange
namespace Go.Proofs.Ytkbnfnfjmofcmaa
set_option linter.unusedVariables false
set_option linter.unusedSimpArgs false
open Go.RowKit

def gone (all : List RV) (f : Int) (x : RV) : Bool := match bestF (atP x.key f) aboveB all with | some y => aboveB y.v x.v | none => false
def keptR (all : List RV) (f : Int) (l : List RV) : List RV := l.filter fun x => !gone all f x
theorem keptR_le (all : List RV) (f : Int) (j : Nat) : (keptR all f (all.take j)).length ≤ all.length := Nat.le_trans (List.length_filter_le _ _) (by rw [List.length_take]; omega)
theorem keptR_step {all : List RV} {f : Int} {j : Nat} {x : RV} (hx : all[j]? = some x) : keptR all f (all.take (j + 1)) = if gone all f x = true then keptR all f (all.take j) else keptR all f (all.take j) ++ [x] := by
  unfold keptR
  rw [List.take_add_one, hx, Option.toList_some, List.filter_append, List.filter_cons]
  cases gone all f x <;> simp
theorem rput2 {G : Nat → Prop} {w wr : World} {r N c : Nat} {all kl : List RV} {B : Option Addr} {old : List Value} (h : RAt G w r N all) (hb : Below w.heap.size w wr)
    (ho : Own wr w.heap.size 54 5 RV.cells (.slice B kl.length c) kl) (mr : RowAt wr r 47 old) (hl : kl.length ≤ N) (h1 : old.length = 1 := by rfl) :
    ∃ G', RAt G' (wr.setCell ⟨r, 0, none⟩ (.slice B kl.length c)) r N kl ∧ (∀ i, G' i → G i ∨ w.heap.size ≤ i) ∧ Turn G w (wr.setCell ⟨r, 0, none⟩ (.slice B kl.length c)) := by
  obtain ⟨A0, cap0, m1, m2, m3', m4, m5, m6⟩ := h
  have ts : Turn (fun i => i = r) wr (wr.setCell ⟨r, 0, none⟩ (.slice B kl.length c)) := Turn.setCell (S := fun i => i = r) (p := ⟨r, 0, none⟩) (Turn.refl _ _) (.inl rfl) _
  have hs := ts.size
  have hz := hb.size
  refine ⟨fun i => G i ∨ (w.heap.size ≤ i ∧ i < (wr.setCell ⟨r, 0, none⟩ (.slice B kl.length c)).heap.size), ⟨B, c, ?_, ?_, .inl m3', ?_, ?_, hl⟩, ?_, ?_⟩
  · refine (mr.set 0 (.slice B kl.length c)).congr ?_
    match old, h1 with
    | [o], _ => rfl
  · exact Own.turn (Own.mono ho (Nat.zero_le _)) ts fun g hg e1 => own_far ho mr (by decide) (by rw [← e1]; exact hg)
  · intro g hg
    have := ho.base g hg
    exact .inr ⟨this.1, by omega⟩
  · rintro i (hi | hi)
    · have := m5 i hi
      omega
    · exact hi.2
  · rintro i (hi | hi)
    · exact .inl hi
    · exact .inr hi.1
  · refine (Turn.of_below hb G).trans (ts.mono fun i _ h => ?_)
    rw [h]
    exact m3'
set_option maxRecDepth 100000 in
set_option maxHeartbeats 6400000 in
theorem rprune_any (G : Nat → Prop) (r N : Nat) (all : List RV) (f : Int) (w : World) (h : RAt G w r N all) (hN : N < 2300000000000) :
    Calls Try.prog 34 #[.pointer (some ⟨r, 0, none⟩), .int .i64 f] w fun e w' => e = .returned (.int .i64 ((all.length : Int) - ((keptR all f all).length : Int))) ∧ ∃ G', RAt G' w' r N (keptR all f all) ∧ (∀ i, G' i → G i ∨ w.heap.size ≤ i) ∧ Turn G w w' := by
  have H0 := Lib.hid h
  clear h
  obtain ⟨A, cap, m1, m2, m3, m4, m5, m6⟩ := H0.out
  obtain ⟨n, hn⟩ : ∃ n, n = all.length := ⟨_, rfl⟩
  rw [← hn] at m1 m2 m4 m6 ⊢
  have HN := Lib.hid hn
  have M1 := Lib.hid m1
  have M2 := Lib.hid m2
  have M4 := Lib.hid m4
  clear m1 m2 m4 hn
  go_enter Try.func34, Try.ntmps34
  go_wp2_with fail
  go_loopw [5, 6] (fun o i wr => ∃ (j : Nat) (B : Option Addr) (c : Nat), i = .int .i64 j ∧ o = .slice B (keptR all f (all.take j)).length c ∧ j ≤ n ∧ Hid (Own wr w.heap.size 54 5 RV.cells (.slice B (keptR all f (all.take j)).length c) (keptR all f (all.take j))) ∧ Hid (Below w.heap.size w wr)) (fun _ i _ => n - (intOf i).toNat)
  case atStart => exact ⟨0, none, 0, rfl, rfl, by omega, Own.nil _ _ _ _ _, Below.refl _ _⟩
  case round =>
    obtain ⟨j, B, c, rfl, rfl, hj, HO, HW⟩ := hrel
    have q0 := (M1.out.below HW.out).cell 0
    simp only [List.getElem?_cons_zero] at q0
    by_cases hlt : j < n
    · obtain ⟨g, x, rfl, hx, x0, x1, x2, x3, x4⟩ := own_rv (Own.below M2.out HW.out) (i := j) (by rw [← HN.out]; exact hlt)
      have HST := Lib.hid (keptR_step (f := f) hx)
      have HX := Lib.hid hx
      clear hx
      go_wp2_with fail
      refine (rat_any G r N all x.key f _ (H0.out.below HW.out) hN).mono ?_
      rintro e w2 ⟨rfl, b2⟩
      obtain ⟨o, ho⟩ : ∃ o, o = bestF (atP x.key f) aboveB all := ⟨_, rfl⟩
      rw [← ho]
      obtain ⟨ob, hob⟩ : ∃ z, z = o.isSome := ⟨_, rfl⟩
      obtain ⟨y, hy⟩ : ∃ z, z = o.getD RV.zero := ⟨_, rfl⟩
      have ev : rseen o = .tuple #[.agg #[.string y.key, .int .i64 y.v.commit, .int .i64 y.v.writer, .bool y.v.found, .string y.v.value], .bool ob] := by unfold rseen; rw [← hy, ← hob]; rfl
      rw [ev]
      have HG := Lib.hid (show gone all f x = (ob && aboveB y.v x.v) by
        unfold gone
        rw [← ho, hob, hy]
        cases o <;> rfl)
      have B2 := Lib.hid (HW.out.trans (b2.mono HW.out.size))
      have HO2 := Lib.hid (HO.out.below b2)
      clear b2 ev hob hy ho x0 x1 x2 x3 x4 q0
      have hba := (Below.refl w2.heap.size w2).alloc (Nat.le_refl _) (.cells #[.string y.key, .int .i64 y.v.commit, .int .i64 y.v.writer, .bool y.v.found, .string y.v.value] 54)
      have rba := RowAt.new w2 54 (RV.cells y)
      obtain ⟨W1, hW1⟩ : ∃ WW : World, WW = w2.alloc (.cells #[.string y.key, .int .i64 y.v.commit, .int .i64 y.v.writer, .bool y.v.found, .string y.v.value] 54) := ⟨_, rfl⟩
      rw [← hW1] at hba
      rw [show (Obj.cells (RV.cells y).toArray 54) = .cells #[.string y.key, .int .i64 y.v.commit, .int .i64 y.v.writer, .bool y.v.found, .string y.v.value] 54 from rfl, ← hW1] at rba
      have HW1 := Lib.hid hW1
      have BW1 := Lib.hid (B2.out.trans (hba.mono B2.out.size))
      have HOW := Lib.hid (HO2.out.below hba)
      have hfx : ∀ w', Below W1.heap.size W1 w' → w'.cell? ⟨r, 0, none⟩ = some (.slice (some ⟨g, 0, none⟩) n cap) ∧ w'.cell? ⟨w2.heap.size, 0, none⟩ = some (.string y.key) ∧ w'.cell? ⟨w2.heap.size, 1, none⟩ = some (.int .i64 y.v.commit) ∧ w'.cell? ⟨w2.heap.size, 2, none⟩ = some (.int .i64 y.v.writer) ∧ w'.cell? ⟨w2.heap.size, 3, none⟩ = some (.bool y.v.found) ∧ w'.cell? ⟨w2.heap.size, 4, none⟩ = some (.string y.v.value) ∧ w'.cell? ⟨g, j * 5, none⟩ = some (.string x.key) ∧ w'.cell? ⟨g, j * 5 + 1, none⟩ = some (.int .i64 x.v.commit) ∧ w'.cell? ⟨g, j * 5 + 2, none⟩ = some (.int .i64 x.v.writer) ∧ w'.cell? ⟨g, j * 5 + 3, none⟩ = some (.bool x.v.found) ∧ w'.cell? ⟨g, j * 5 + 4, none⟩ = some (.string x.v.value) := by
        intro w' hb
        have hbw := BW1.out.trans (hb.mono BW1.out.size)
        obtain ⟨g2, x2', e2, hx2, z0, z1, z2, z3, z4⟩ := own_rv (Own.below M2.out hbw) (i := j) (by rw [← HN.out]; omega)
        obtain rfl : g = g2 := by injection e2 with e2; injection e2
        obtain rfl : x = x2' := by rw [HX.out] at hx2; injection hx2
        have rr := rba.below hb
        exact ⟨(M1.out.below hbw).cell 0, rr.cell 0, rr.cell 1, rr.cell 2, rr.cell 3, rr.cell 4, z0, z1, z2, z3, z4⟩
      have HFX := Lib.hid hfx
      obtain ⟨gb, hgb⟩ : ∃ z, z = gone all f x := ⟨_, rfl⟩
      have HGB := Lib.hid hgb
      rw [← hgb] at HG HST
      have r0 := Lib.hid (Below.refl W1.heap.size W1)
      have r1 := Lib.hid (Below.refl W1.heap.size W1).drew
      clear hfx hba rba hW1 hgb HO HO2
      go_wp2_with fail
      rw [← HW1.out]
      go_cut [44] from 33 to 44 (fun v wc => v = .bool gb ∧ Hid (Below W1.heap.size W1 wc))
      case first =>
        cases ob with
        | false =>
          have e : gb = false := by rw [HG.out]; rfl
          subst e
          go_quiet (fail)
          go_wp2_with fail
          go_meet
          case rel => exact ⟨rfl, Lib.hid (belowN (Below.refl W1.heap.size W1) _)⟩
        | true =>
          have e : aboveB y.v x.v = gb := by rw [HG.out]; rfl
          have HE := Lib.hid e
          clear e
          go_region_held3 (fun w' => w'.cell? ⟨r, 0, none⟩ = some (.slice (some ⟨g, 0, none⟩) n cap) ∧ w'.cell? ⟨w2.heap.size, 0, none⟩ = some (.string y.key) ∧ w'.cell? ⟨w2.heap.size, 1, none⟩ = some (.int .i64 y.v.commit) ∧ w'.cell? ⟨w2.heap.size, 2, none⟩ = some (.int .i64 y.v.writer) ∧ w'.cell? ⟨w2.heap.size, 3, none⟩ = some (.bool y.v.found) ∧ w'.cell? ⟨w2.heap.size, 4, none⟩ = some (.string y.v.value) ∧ w'.cell? ⟨g, j * 5, none⟩ = some (.string x.key) ∧ w'.cell? ⟨g, j * 5 + 1, none⟩ = some (.int .i64 x.v.commit) ∧ w'.cell? ⟨g, j * 5 + 2, none⟩ = some (.int .i64 x.v.writer) ∧ w'.cell? ⟨g, j * 5 + 3, none⟩ = some (.bool x.v.found) ∧ w'.cell? ⟨g, j * 5 + 4, none⟩ = some (.string x.v.value))
            (first | exact HFX.out _ r2.out | exact HFX.out _ r1.out | exact HFX.out _ r0.out)
            (first | (go_at_call 35; refine (above_any y x _).mono ?_; rintro e w4 ⟨he, b4⟩; rw [HE.out] at he; subst he; have r2 := Lib.hid (r1.out.trans (b4.mono r1.out.size)); clear b4))
          go_wp2_with fail
          go_meet
          case rel => exact ⟨rfl, r2⟩
      case rest =>
        obtain ⟨rfl, HC⟩ := hcut
        have BC := Lib.hid (BW1.out.trans (HC.out.mono BW1.out.size))
        have HOC := Lib.hid (HOW.out.below HC.out)
        cases gb with
        | true =>
          have HS2 := Lib.hid (HST.out.trans (if_pos rfl))
          go_wp2_with fail
          exact ⟨⟨j + 1, B, c, rfl, by rw [HS2.out], by omega, by rw [HS2.out]; exact HOC, BC⟩, by show n - ((j : Int) + 1).toNat < n - (j : Int).toNat; omega⟩
        | false =>
          have HS2 := Lib.hid (HST.out.trans (if_neg (by simp)))
          obtain ⟨fl, hfl⟩ : ∃ l, l = keptR all f (all.take j) := ⟨_, rfl⟩
          have hfb : fl.length ≤ n := by rw [hfl, HN.out]; exact keptR_le all f j
          rw [← hfl] at HOC HS2 ⊢
          have HSL := Lib.hid (show fl.length + 1 ≤ maxLen ∧ (fl.length + 1) * 56 ≤ 140737488355328 by unfold maxLen; omega)
          obtain ⟨q0, -, -, -, -, -, x0, x1, x2, x3, x4⟩ := HFX.out _ HC.out
          have HOA := Lib.hid (HOC.out.alloc (.cells #[.string x.key, .int .i64 x.v.commit, .int .i64 x.v.writer, .bool x.v.found, .string x.v.value] 54))
          have RBA := Lib.hid (RowAt.new wc 54 (RV.cells x))
          have TA := Lib.hid ((BC.out).alloc BC.out.size (.cells #[.string x.key, .int .i64 x.v.commit, .int .i64 x.v.writer, .bool x.v.found, .string x.v.value] 54))
          have hz := BC.out.size
          clear hfl HST
          go_wp2_with (first | (refine push_list RV.cells 54 45 54 (.agg RV.zero.cells.toArray) 5 56 Try.underlying45 (by kernel_rfl) rfl (by decide) RV.len rv_one _ _ (by rfl) (by rfl) w.heap.size (.slice B fl.length c) fl x (by rfl) HOA.out wc.heap.size 1 (by rfl) RBA.out HSL.out.1 HSL.out.2 (by simp; omega) (wc.heap.size + 1) (by simp) ?_; intro g5 cap5 w3 o3 g3 l3 l4; have O3 := Lib.hid o3; have T3 := Lib.hid (((Turn.of_below TA.out (fun _ => False)).grown g3 fun i hi => .inr (HOA.out.base i hi).1).below (Nat.le_refl _) fun _ _ h => h); clear o3 g3 l3 l4))
          exact ⟨⟨j + 1, some ⟨g5, 0, none⟩, cap5, rfl, by rw [HS2.out]; simp, by omega, by rw [HS2.out]; simpa using O3, T3⟩, by show n - ((j : Int) + 1).toNat < n - (j : Int).toNat; omega⟩
    · obtain rfl : j = n := by omega
      have hall : all.take j = all := List.take_of_length_le (by rw [← HN.out]; exact Nat.le_refl _)
      have hkl := keptR_le all f j
      rw [hall] at HO hkl ⊢
      rw [← HN.out] at hkl
      obtain ⟨kl, hkl2⟩ : ∃ l, l = keptR all f all := ⟨_, rfl⟩
      rw [← hkl2] at HO hkl ⊢
      have HKL := Lib.hid hkl2
      have mr := M1.out.below HW.out
      have fz := mr.frozen 0
      have MR := Lib.hid mr
      have hw1 : IntKind.i64.wrap ((j : Int) - (kl.length : Int)) = (j : Int) - (kl.length : Int) := wrap_in (by omega) (by omega)
      clear hall hkl2 mr
      go_wp2_with fail
      go_ret
      rw [← HKL.out]
      exact ⟨rfl, rput2 H0.out HW.out HO.out MR.out (by have := m6; omega)⟩

end Go.Proofs.Ytkbnfnfjmofcmaa
