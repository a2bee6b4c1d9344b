/- ChainPlays: the walk. -/
import Derived.Test.YtkbnfnfjmofcmaaRr
namespace Go.Proofs.Ytkbnfnfjmofcmaa
set_option linter.unusedVariables false
set_option linter.unusedSimpArgs false
open Go.RowKit

def Small (all : List RV) : Prop := ∀ x ∈ all, x.key.size ≤ 8
theorem step_any (B p r N : Nat) (s : Store) (all : List RV) (o : Op) (w : World) (h : Both B w p r N N s all) (hsim : Sim s all) (hs : Small all) (hB : B ≤ w.heap.size) (ho : o.Fits) (hN : N < 2200000000000) :
    Calls Try.prog 19 #[.pointer (some ⟨p, 0, none⟩), .pointer (some ⟨r, 0, none⟩), .agg #[.int .i64 o.kind, .int .i64 o.time, .string o.key, .int .i64 o.v.commit, .int .i64 o.v.writer, .bool o.v.found, .string o.v.value]] w fun e w' => e = .returned (.bool true) ∧ ∃ s' all', Both B w' p r (N + 1) (N + 1) s' all' ∧ Sim s' all' ∧ Small all' ∧ Below B w w' := by
  obtain ⟨kd, tm, ky, v⟩ := o
  have hk : ky.size ≤ maxLen := ho.2.2.1.le
  have hv : v.value.size ≤ maxLen := ho.2.2.2.2.2.le
  have quiet : ∀ (w' : World), Below w.heap.size w w' → ∃ s' all', Both B w' p r (N + 1) (N + 1) s' all' ∧ Sim s' all' ∧ Small all' ∧ Below B w w' :=
    fun w' hb => ⟨s, all, (h.below hb).mono (by omega) (by omega), hsim, hs, hb.mono hB⟩
  obtain ⟨F, G, h1, h2, h3⟩ := id h
  by_cases e1 : kd = 1
  · subst e1
    exact (step_install B p r N N s all tm ky v w h hsim hB hk hv (by omega) (by omega)).mono fun e w' ⟨he, s', all', a1, a2, a3, a4⟩ => ⟨he, s', all', a1, a2, a3 hs, a4⟩
  by_cases e2 : kd = 2
  · subst e2
    exact (step_at F G p r N N s all tm ky v w h1 h2 hsim hk (by omega) (by omega)).mono fun e w' ⟨he, hb⟩ => ⟨he, quiet w' hb⟩
  by_cases e3 : kd = 3
  · subst e3
    exact (step_after F G p r N N s all tm ky v w h1 h2 hsim hk (by omega) (by omega)).mono fun e w' ⟨he, hb⟩ => ⟨he, quiet w' hb⟩
  by_cases e4 : kd = 4
  · subst e4
    exact (step_chain F G p r N N s all tm ky v w h1 h2 hsim hk (by omega) (by omega)).mono fun e w' ⟨he, hb⟩ => ⟨he, quiet w' hb⟩
  by_cases e5 : kd = 5
  · subst e5
    exact (step_keys F G p r N N s all tm ky v w h1 h2 hsim (fun x hx => by have := hs x hx; unfold maxLen; omega) (by omega) (by omega)).mono fun e w' ⟨he, hb⟩ => ⟨he, quiet w' hb⟩
  by_cases e6 : kd = 6
  · subst e6
    exact (step_prune B p r N N s all tm ky v w h hsim hB (by omega) (by omega)).mono fun e w' ⟨he, s', all', a1, a2, a3, a4⟩ => ⟨he, s', all', a1.mono (by omega) (by omega), a2, a3 hs, a4⟩
  · exact (step_none p r ⟨kd, tm, ky, v⟩ w e1 e2 e3 e4 e5 e6).mono fun e w' ⟨he, hb⟩ => ⟨he, quiet w' hb⟩
set_option maxRecDepth 100000 in
set_option maxHeartbeats 6400000 in
theorem plays_walk (A : Option Addr) (n cap : Nat) (xs : List Op) (w : World) (hn : xs.length = n) (hm : n < 2100000000000) (hx : ∀ o ∈ xs, o.Fits) (h : SliceRd w A 7 Op.cells xs) :
    Calls Try.prog 6 #[.slice A n cap] w fun e w' => e = .returned (.bool true) ∧ Below w.heap.size w w' := by
  have HX := Lib.hid hx
  have HN := Lib.hid hn
  have HR := Lib.hid h
  clear hx hn h
  go_enter Try.func6, Try.ntmps6
  go_wp2_with fail
  refine (anchor_any w).mono ?_
  rintro e w1 ⟨rfl, b1⟩
  have HB1 := Lib.hid b1
  clear b1
  go_wp2_with fail
  refine (new_any w1).mono ?_
  rintro e w2 ⟨p, rfl, s2, b2⟩
  have S2 := Lib.hid (show SAt' w1.heap.size w2 p 0 (0, fun _ => []) from ⟨_, s2, fun i hi => hi.1⟩)
  have B2 := Lib.hid b2
  clear s2 b2
  have hbr := (Below.refl w2.heap.size w2).alloc (Nat.le_refl _) (.cells #[.slice none 0 0] 47)
  have BO := Lib.hid (new_list w2 _ w1.heap.size p 0 (0, fun _ => []) S2.out B2.out.size hbr (RowAt.new w2 47 [.slice none 0 0]))
  have BB := Lib.hid (B2.out.trans (hbr.mono B2.out.size))
  obtain ⟨r, hr⟩ : ∃ r, r = w2.heap.size := ⟨_, rfl⟩
  rw [← hr] at BO
  clear hbr
  go_wp2_with fail
  rw [← hr]
  have HRR := Lib.hid hr
  clear hr
  go_loopw [18] (fun i wr => ∃ (k : Nat) (st : Store) (all : List RV), k ≤ n ∧ i = .int .i64 k ∧ Hid (Both w1.heap.size wr p r k k st all) ∧ Hid (Sim st all) ∧ Hid (Small all) ∧ Hid (Below w1.heap.size w1 wr)) (fun i _ => n - (intOf i).toNat)
  case atStart => exact ⟨0, (0, fun _ => []), [], by omega, rfl, BO.out, Sim.nil, (fun x hx => by cases hx), BB.out⟩
  case round =>
    clear BO BB
    obtain ⟨k, st, all, hk, rfl, HBO, HSI, HSM, HB⟩ := hrel
    by_cases hlt : k < n
    · obtain ⟨x, hx⟩ : ∃ x, xs[k]? = some x := ⟨_, List.getElem?_eq_getElem (by rw [HN.out]; exact hlt)⟩
      obtain ⟨b, off, rfl, hb, hc⟩ := ((HR.out.below HB1.out).below HB.out).at hx
      have FX := Lib.hid (HX.out x (List.mem_of_getElem? hx))
      obtain ⟨kd, tm, ky, ⟨vc, vw, vf, vv⟩⟩ := x
      have c0 := hc 0 (by omega)
      have c1 := hc 1 (by omega)
      have c2 := hc 2 (by omega)
      have c3 := hc 3 (by omega)
      have c4 := hc 4 (by omega)
      have c5 := hc 5 (by omega)
      have c6 := hc 6 (by omega)
      simp only [Op.cells, List.getElem?_cons_zero, List.getElem?_cons_succ, Nat.add_zero] at c0 c1 c2 c3 c4 c5 c6
      clear hc hx hb
      have hba := (Below.refl wr.heap.size wr).alloc (Nat.le_refl _) (.cells #[.int .i64 kd, .int .i64 tm, .string ky, .int .i64 vc, .int .i64 vw, .bool vf, .string vv] 35)
      have rba := RowAt.new wr 35 [.int .i64 kd, .int .i64 tm, .string ky, .int .i64 vc, .int .i64 vw, .bool vf, .string vv]
      have HBA := Lib.hid (HBO.out.below hba)
      have BA := Lib.hid (HB.out.trans (hba.mono HB.out.size))
      have d0 := rba.cell 0
      have d1 := rba.cell 1
      have d2 := rba.cell 2
      have d3 := rba.cell 3
      have d4 := rba.cell 4
      have d5 := rba.cell 5
      have d6 := rba.cell 6
      simp only [List.getElem?_cons_zero, List.getElem?_cons_succ] at d0 d1 d2 d3 d4 d5 d6
      clear hba rba
      go_wp2_with fail
      refine (step_any w1.heap.size p r k st all ⟨kd, tm, ky, ⟨vc, vw, vf, vv⟩⟩ _ HBA.out HSI.out HSM.out BA.out.size FX.out (by omega)).mono ?_
      rintro e w5 ⟨rfl, st', all', t5, i5, m5, b5⟩
      have T5 := Lib.hid t5
      have I5 := Lib.hid i5
      have M5 := Lib.hid m5
      have B5 := Lib.hid (BA.out.trans b5)
      clear t5 i5 m5 b5 c0 c1 c2 c3 c4 c5 c6 d0 d1 d2 d3 d4 d5 d6
      go_wp2_with fail
      exact ⟨⟨k + 1, st', all', by omega, rfl, T5, I5, M5, B5⟩, by show n - ((k : Int) + 1).toNat < n - (k : Int).toNat; omega⟩
    · have e : k = n := by omega
      subst e
      clear HN HX HR
      obtain ⟨F0, G0, f1, f2, f3⟩ := HBO.out
      have SF := Lib.hid f1
      have RG := Lib.hid f2
      clear f1 f2 f3
      go_wp2_with fail
      refine (rkeys_any G0 r k all _ RG.out (by omega) (fun x hx => by have := HSM.out x hx; unfold maxLen; omega)).mono ?_
      rintro e w5 ⟨v5, ks, rfl, kr5, o5, b5, l5⟩
      obtain ⟨A5, c5, rfl⟩ := own_form o5
      obtain ⟨m, hm⟩ : ∃ m, m = ks.length := ⟨_, rfl⟩
      rw [← hm] at o5 l5 ⊢
      have HM := Lib.hid hm
      have O5 := Lib.hid o5
      have SF5 := Lib.hid (SF.out.below b5)
      have RG5 := Lib.hid (RG.out.below b5)
      have B5 := Lib.hid (HB.out.trans (b5.mono HB.out.size))
      have KS := Lib.hid (show ∀ x ∈ ks, x.size ≤ maxLen from fun x hx => by
        obtain ⟨y, hy, e⟩ := (kr5.mem x).1 hx
        have := HSM.out y hy
        unfold maxLen
        rw [← e]
        omega)
      clear hm o5 b5 kr5
      go_wp2_with fail
      go_loopw [31] (fun i wr => ∃ j : Nat, i = .int .i64 j ∧ j ≤ m ∧ Hid (Below w5.heap.size w5 wr)) (fun i _ => m - (intOf i).toNat)
      case atStart => exact ⟨0, rfl, by omega, Below.refl _ _⟩
      case round =>
        obtain ⟨j, rfl, hj, HW⟩ := hrel
        by_cases hlt2 : j < m
        · obtain ⟨g, y, rfl, hy, -, y0⟩ := own_str (Own.below O5.out HW.out) (j := j) (by rw [← HM.out]; exact hlt2)
          have HY := Lib.hid (KS.out y (List.mem_of_getElem? hy))
          clear hy
          go_wp2_with fail
          refine (step_chain F0 G0 p r k k st all 0 y Ver.zero _ (SF5.out.below HW.out) (RG5.out.below HW.out) HSI.out HY.out (by omega) (by omega)).mono ?_
          rintro e w10 ⟨rfl, b10⟩
          have B10 := Lib.hid (HW.out.trans (b10.mono HW.out.size))
          clear b10
          go_wp2_with fail
          exact ⟨⟨j + 1, rfl, by omega, B10⟩, by show m - ((j : Int) + 1).toNat < m - (j : Int).toNat; omega⟩
        · obtain rfl : j = m := by omega
          go_wp2_with fail
          refine (step_keys F0 G0 p r k k st all 0 ByteArray.empty Ver.zero _ (SF5.out.below HW.out) (RG5.out.below HW.out) HSI.out (fun x hx => by have := HSM.out x hx; unfold maxLen; omega) (by omega) (by omega)).mono ?_
          rintro e w11 ⟨rfl, b11⟩
          have B11 := Lib.hid ((B5.out.trans (HW.out.mono B5.out.size)).trans (b11.mono (Nat.le_trans B5.out.size HW.out.size)))
          clear b11
          go_wp2_with fail
          go_ret
          exact ⟨rfl, HB1.out.trans (B11.out.mono HB1.out.size)⟩

end Go.Proofs.Ytkbnfnfjmofcmaa
