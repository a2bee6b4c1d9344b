/- Two games apart. -/
import Derived.Test.YtcfdpeafnpeddaaPlay
import Derived.Deep.RegionHeld3
namespace Go.Proofs.Ytcfdpeafnpeddaa
set_option linter.unusedVariables false
set_option linter.unusedSimpArgs false
open Go.Conc Go.RowKit Go.MuLone

/-- Two sets of blocks have none in common. -/
def Apart (S T : Nat → Prop) : Prop := ∀ b, S b → ¬ T b
theorem Apart.symm {S T : Nat → Prop} (h : Apart S T) : Apart T S := fun b hb hc => h b hc hb
theorem Apart.left {w w1 : World} {x y x' : Pl} {v v' u : Value} {r g g1 cap r2 g2 cap2 base n n2 m' : Nat} {st st2 : List St}
    (h : Apart (gown x st.length v r g) (gown y st2.length u r2 g2)) (h1 : GS w x v r g cap base n st) (h2 : GS w y u r2 g2 cap2 base n2 st2) (t : Turn (gown x st.length v r g) w w1)
    (o : ∀ b, gown x' m' v' r g1 b → gown x st.length v r g b ∨ w.heap.size ≤ b) : GS w1 y u r2 g2 cap2 base n2 st2 ∧ Apart (gown x' m' v' r g1) (gown y st2.length u r2 g2) := by
  refine ⟨h2.turn t fun b hb hc => h b hc hb, fun b hb hc => ?_⟩
  rcases o b hb with q | q
  · exact h b q hc
  · have := h2.lt b hc
    omega
set_option maxRecDepth 100000 in
set_option maxHeartbeats 12800000 in
theorem apart_walk (A : Option Addr) (m cap0 : Nat) (xs : List HOp) (hm : xs.length = m) (hml : m ≤ maxLen) (A' : Option Addr) (m' cap0' : Nat) (ys : List HOp) (hm' : ys.length = m') (hml' : m' ≤ maxLen)
    (w : World) (hR : SliceRd w A 3 HOp.cells xs) (hR' : SliceRd w A' 3 HOp.cells ys) :
    Calls Try.prog 9 #[.slice A m cap0, .slice A' m' cap0'] w fun e w' => e = .returned (.bool true) ∧ Below w.heap.size w w' := by
  have HR := Lib.hid hR
  have HR' := Lib.hid hR'
  have hq : m ≤ 9223372036854775807 := by unfold maxLen at hml; omega
  have hq' : m' ≤ 9223372036854775807 := by unfold maxLen at hml'; omega
  have hnot : ∀ (x : Bool) (w : World), (Op.unary .not (.bool x)).run Try.prog w = .ok (.bool (!x)) w := fun _ _ => rfl
  clear hR hml hR' hml'
  go_enter Try.func9, Try.ntmps9
  go_wp2_with fail
  refine (anchor_any _).mono ?_
  rintro e w0 ⟨rfl, bb0⟩
  have B0 := Lib.hid bb0
  have hz0 := bb0.size
  clear bb0
  go_wp2_with fail
  refine (new_yes 6 w0 (by decide) (by decide)).mono ?_
  rintro e w1 ⟨x, rfl, h1, bb1, ho⟩
  have H1 := Lib.hid h1
  have B1 := Lib.hid (B0.out.trans (bb1.mono hz0))
  have HO := Lib.hid ho
  have hz1 := bb1.size
  clear h1 bb1 ho
  go_wp2_with fail
  refine (new_yes 6 w1 (by decide) (by decide)).mono ?_
  rintro e w2 ⟨y, rfl, h2, bb2, ho⟩
  have H1' := Lib.hid (H1.out.below bb2)
  have HX := Lib.hid (show ∀ b, x.own 1 b → b < w1.heap.size from fun b hb => H1.out.lt b hb)
  have H2 := Lib.hid h2
  have B2 := Lib.hid (B1.out.trans (bb2.mono (by omega)))
  have HO' := Lib.hid ho
  have hz2 := bb2.size
  clear h2 bb2 ho H1
  go_wp2_with fail
  have B3 := Lib.hid ((Below.refl w2.heap.size w2).alloc (Nat.le_refl _) (.cells #[.slice none 0 0] 40))
  have B3' := Lib.hid (B3.out.alloc B3.out.size (.cells #[.slice none 0 0] 40))
  have hz3 : ((w2.alloc (.cells #[.slice none 0 0] 40)).alloc (.cells #[.slice none 0 0] 40)).heap.size = w2.heap.size + 2 := by simp
  have R1 := Lib.hid ((RowAt.new w2 40 [.slice none 0 0]).alloc (.cells #[.slice none 0 0] 40))
  have R2 := Lib.hid (RowAt.new' (w2.alloc (.cells #[.slice none 0 0] 40)) (w2.heap.size + 1) 40 [.slice none 0 0] (by simp))
  simp only [List.toArray] at R1 R2 B3 B3' hz3
  generalize (w2.alloc (.cells #[.slice none 0 0] 40)).alloc (.cells #[.slice none 0 0] 40) = w3 at B3' R1 R2 hz3 ⊢
  refine (dnew_yes w2.heap.size 6 w3 R1.out (by decide) (by decide) w.heap.size (by omega)).mono ?_
  rintro e w4 ⟨rfl, d4, t4⟩
  have D4 := Lib.hid d4
  have R2' := Lib.hid (R2.out.turn t4 (by omega))
  have hz4 := t4.size
  have hl4 := d4.ltg
  have B4 := Lib.hid (B3'.out.trans (t4.below (B := w2.heap.size) (by omega) fun i hi e => by omega))
  clear d4 t4
  go_wp2_with fail
  refine (dnew_yes (w2.heap.size + 1) 6 w4 R2'.out (by decide) (by decide) w.heap.size (by omega)).mono ?_
  rintro e w5 ⟨rfl, d5, t5⟩
  have b5 : Below w2.heap.size w2 w5 := B4.out.trans (t5.below (B := w2.heap.size) (by omega) fun i hi e => by omega)
  have hz5 := t5.size
  have hl5 := d5.ltg
  have hx5 := H1'.out.below b5
  have hy5 := H2.out.below b5
  have hd4 := D4.out.turn t5 (by omega) (by omega)
  have hz6 : (w5.alloc (.cells #[.pointer (some ⟨x.B 0, 0, none⟩)] 23)).heap.size = w5.heap.size + 1 := by simp
  have bb6 := (Below.refl w5.heap.size w5).alloc (Nat.le_refl _) (.cells #[Value.pointer (some ⟨x.B 0, 0, none⟩)] 23)
  have hyl : ∀ b, y.own 1 b → b < w2.heap.size := fun b hb => H2.out.lt b hb
  have g1 := GS.start hx5 rfl (one_inv 6 0 (by decide) (by decide)) hd4 (fun hx => by have := HX.out _ hx; omega) (fun hx => by have := HX.out _ hx; omega) (fun b hb => Nat.le_trans hz0 (HO.out b hb)) (by omega) (by omega)
  have g2 := GS.start (w := w5.alloc (.cells #[.pointer (some ⟨x.B 0, 0, none⟩)] 23)) (hy5.below bb6) rfl (one_inv 6 0 (by decide) (by decide)) (d5.below bb6) (fun hx => by have := hyl _ hx; omega) (fun hx => by have := hyl _ hx; omega) (fun b hb => by have := HO'.out b hb; omega) (by omega) (by omega)
  have g1' := g1.below ((Below.refl _ _).alloc (Nat.le_refl _) (.cells #[Value.pointer (some ⟨y.B 0, 0, none⟩)] 23))
  rw [hz6] at g2
  have hap : Apart (gown x 1 (.slice (some ⟨w5.heap.size, 0, none⟩) 1 1) w2.heap.size w3.heap.size) (gown y 1 (.slice (some ⟨w5.heap.size + 1, 0, none⟩) 1 1) (w2.heap.size + 1) w4.heap.size) := by
    intro b hb hc
    have f1 : x.own 1 b → w0.heap.size ≤ b ∧ b < w1.heap.size := fun h => ⟨HO.out b h, HX.out b h⟩
    have f2 : y.own 1 b → w1.heap.size ≤ b ∧ b < w2.heap.size := fun h => ⟨HO'.out b h, hyl b h⟩
    have f3 : (Value.slice (some ⟨w5.heap.size, 0, none⟩) 1 1).ownBlock = some b → b = w5.heap.size := fun h => (Option.some.inj h).symm
    have f4 : (Value.slice (some ⟨w5.heap.size + 1, 0, none⟩) 1 1).ownBlock = some b → b = w5.heap.size + 1 := fun h => (Option.some.inj h).symm
    rcases hb with hb | hb | hb | hb
    · have := f1 hb
      rcases hc with hc | hc | hc | hc
      · have := f2 hc; omega
      · have := f4 hc; omega
      · omega
      · omega
    · have := f3 hb
      rcases hc with hc | hc | hc | hc
      · have := f2 hc; omega
      · have := f4 hc; omega
      · omega
      · omega
    · rcases hc with hc | hc | hc | hc
      · have := f2 hc; omega
      · have := f4 hc; omega
      · omega
      · omega
    · rcases hc with hc | hc | hc | hc
      · have := f2 hc; omega
      · have := f4 hc; omega
      · omega
      · omega
  have G1 := Lib.hid g1'
  have G2 := Lib.hid g2
  have AP := Lib.hid hap
  have B5 := Lib.hid (((B2.out.trans (b5.mono (by omega))).alloc (by omega) (.cells #[Value.pointer (some ⟨x.B 0, 0, none⟩)] 23)).alloc (by omega) (.cells #[Value.pointer (some ⟨y.B 0, 0, none⟩)] 23))
  clear d5 t5 b5 hx5 hy5 hd4 hz6 bb6 hyl g1 g2 g1' hap hz5 hl5 hz4 hl4 hz3 hz2 hz1 hz0
  go_wp2
  go_loopw [14, 11, 12] (fun i v u wr => ∃ (j : Nat) (x : Pl) (g cap : Nat) (st : List St) (y : Pl) (g' cap' : Nat) (st' : List St), i = .int .i64 j ∧ j ≤ max m m' ∧ Hid (GS wr x v w2.heap.size g cap w.heap.size st.length st) ∧ Hid (GS wr y u (w2.heap.size + 1) g' cap' w.heap.size st'.length st') ∧ Hid (Apart (gown x st.length v w2.heap.size g) (gown y st'.length u (w2.heap.size + 1) g')) ∧ Hid (Below w.heap.size w wr)) (fun i _ _ _ => max m m' - (intOf i).toNat)
  case atStart => exact ⟨0, x, _, _, _, y, _, _, _, rfl, by omega, G1.out, G2.out, AP.out, B5.out⟩
  case round =>
    clear H1' HX H2 HO HO' G1 G2 AP B5
    obtain ⟨j, x, g, cap, st, y, g', cap', st', rfl, hj, HG, HG', HAP, HB⟩ := hrel
    obtain ⟨vA, vc, rfl, -⟩ := HG.out.view
    obtain ⟨uA, uc, rfl, -⟩ := HG'.out.view
    by_cases hlt : j < m
    · have hd : decide ((j : Int) < m) = true := decide_eq_true (by omega)
      by_cases hlt' : j < m'
      · have hd' : decide ((j : Int) < m') = true := decide_eq_true (by omega)
        obtain ⟨op, hx⟩ : ∃ op, xs[j]? = some op := ⟨_, List.getElem?_eq_getElem (by omega)⟩
        obtain ⟨b, off, rfl, hb, hc⟩ := (HR.out.below HB.out).at hx
        obtain ⟨ok, oa, on⟩ := op
        have c0 := hc 0 (by omega)
        have c1 := hc 1 (by omega)
        have c2 := hc 2 (by omega)
        simp only [HOp.cells, List.getElem?_cons_zero, List.getElem?_cons_succ, Nat.add_zero] at c0 c1 c2
        clear hc
        go_wp2_with fail
        refine (step_any x _ w2.heap.size g cap w.heap.size st ok oa on _ HG.out HB.out.size).mono ?_
        rintro e w4 ⟨x', v4, g4, cap4, st4, rfl, hg4, t4, o4⟩
        obtain ⟨vA4, vc4, rfl, -⟩ := hg4.view
        have hap4 := HAP.out.left HG.out HG'.out t4 o4
        have HG4 := Lib.hid hg4
        have HP4 := Lib.hid hap4.2
        have HG4' := Lib.hid hap4.1
        have HB4 := Lib.hid (HG.out.bel t4 HB.out)
        clear hg4 t4 o4 hap4 c0 c1 c2
        obtain ⟨op', hx'⟩ : ∃ op, ys[j]? = some op := ⟨_, List.getElem?_eq_getElem (by omega)⟩
        obtain ⟨b', off', rfl, hb', hc'⟩ := (HR'.out.below HB4.out).at hx'
        obtain ⟨ok', oa', on'⟩ := op'
        have d0 := hc' 0 (by omega)
        have d1 := hc' 1 (by omega)
        have d2 := hc' 2 (by omega)
        simp only [HOp.cells, List.getElem?_cons_zero, List.getElem?_cons_succ, Nat.add_zero] at d0 d1 d2
        clear hc'
        go_wp2_with fail
        refine (step_any y _ (w2.heap.size + 1) g' cap' w.heap.size st' ok' oa' on' _ HG4'.out HB4.out.size).mono ?_
        rintro e w6 ⟨y6, v6, g6, cap6, st6, rfl, hg6, t6, o6⟩
        obtain ⟨vA6, vc6, rfl, -⟩ := hg6.view
        have hap6 := HP4.out.symm.left HG4'.out HG4.out t6 o6
        have HG6 := Lib.hid hg6
        have HP6 := Lib.hid hap6.2.symm
        have HG6' := Lib.hid hap6.1
        have HB6 := Lib.hid (HG4'.out.bel t6 HB4.out)
        clear hg6 t6 o6 hap6 d0 d1 d2
        go_wp2
        go_roundw
        case rel => exact ⟨j + 1, _, _, _, _, _, _, _, _, by go_num, by omega, HG6'.out, HG6.out, HP6.out, HB6.out⟩
        case measure => simp [intOf]; omega
      · have hd' : decide ((j : Int) < m') = false := decide_eq_false (by omega)
        obtain ⟨op, hx⟩ : ∃ op, xs[j]? = some op := ⟨_, List.getElem?_eq_getElem (by omega)⟩
        obtain ⟨b, off, rfl, hb, hc⟩ := (HR.out.below HB.out).at hx
        obtain ⟨ok, oa, on⟩ := op
        have c0 := hc 0 (by omega)
        have c1 := hc 1 (by omega)
        have c2 := hc 2 (by omega)
        simp only [HOp.cells, List.getElem?_cons_zero, List.getElem?_cons_succ, Nat.add_zero] at c0 c1 c2
        clear hc
        go_wp2_with fail
        refine (step_any x _ w2.heap.size g cap w.heap.size st ok oa on _ HG.out HB.out.size).mono ?_
        rintro e w4 ⟨x', v4, g4, cap4, st4, rfl, hg4, t4, o4⟩
        obtain ⟨vA4, vc4, rfl, -⟩ := hg4.view
        have hap4 := HAP.out.left HG.out HG'.out t4 o4
        have HG4 := Lib.hid hg4
        have HP4 := Lib.hid hap4.2
        have HG4' := Lib.hid hap4.1
        have HB4 := Lib.hid (HG.out.bel t4 HB.out)
        clear hg4 t4 o4 hap4 c0 c1 c2
        go_wp2
        go_roundw
        case rel => exact ⟨j + 1, _, _, _, _, _, _, _, _, by go_num, by omega, HG4.out, HG4'.out, HP4.out, HB4.out⟩
        case measure => simp [intOf]; omega
    · have hd : decide ((j : Int) < m) = false := decide_eq_false (by omega)
      by_cases hlt' : j < m'
      · have hd' : decide ((j : Int) < m') = true := decide_eq_true (by omega)
        obtain ⟨op', hx'⟩ : ∃ op, ys[j]? = some op := ⟨_, List.getElem?_eq_getElem (by omega)⟩
        obtain ⟨b', off', rfl, hb', hc'⟩ := (HR'.out.below HB.out).at hx'
        obtain ⟨ok', oa', on'⟩ := op'
        have d0 := hc' 0 (by omega)
        have d1 := hc' 1 (by omega)
        have d2 := hc' 2 (by omega)
        simp only [HOp.cells, List.getElem?_cons_zero, List.getElem?_cons_succ, Nat.add_zero] at d0 d1 d2
        clear hc'
        go_wp2_with fail
        refine (step_any y _ (w2.heap.size + 1) g' cap' w.heap.size st' ok' oa' on' _ HG'.out HB.out.size).mono ?_
        rintro e w6 ⟨y6, v6, g6, cap6, st6, rfl, hg6, t6, o6⟩
        obtain ⟨vA6, vc6, rfl, -⟩ := hg6.view
        have hap6 := HAP.out.symm.left HG'.out HG.out t6 o6
        have HG6 := Lib.hid hg6
        have HP6 := Lib.hid hap6.2.symm
        have HG6' := Lib.hid hap6.1
        have HB6 := Lib.hid (HG'.out.bel t6 HB.out)
        clear hg6 t6 o6 hap6 d0 d1 d2
        go_wp2
        go_roundw
        case rel => exact ⟨j + 1, _, _, _, _, _, _, _, _, by go_num, by omega, HG6'.out, HG6.out, HP6.out, HB6.out⟩
        case measure => simp [intOf]; omega
      · have hd' : decide ((j : Int) < m') = false := decide_eq_false (by omega)
        have hcap := HG.out.rt.caps
        have hle := HG.out.inv.le
        have hqh := HG.out.rt.head_cell
        have hqh2 := HG'.out.rt.head_cell
        obtain ⟨n, hn⟩ : ∃ n, n = st.length := ⟨_, rfl⟩
        obtain ⟨n', hn'⟩ : ∃ n, n = st'.length := ⟨_, rfl⟩
        have HN := Lib.hid hn
        have HN' := Lib.hid hn'
        have HY := HG'
        rw [← hn] at hcap hle hqh
        rw [← hn] at HG ⊢
        rw [← hn'] at hqh2
        rw [← hn'] at HY ⊢
        clear hn hn'
        go_wp2
        clear hqh hqh2
        go_loopw [15] (fun i wx => ∃ k : Nat, i = .int .i64 k ∧ k ≤ n ∧ Hid (GS wx x (.slice vA n vc) w2.heap.size g cap w.heap.size n st) ∧ Hid (RT wx (w2.heap.size + 1) g' cap' w.heap.size st') ∧ Hid (Below w.heap.size w wx)) (fun i _ => n - (intOf i).toNat)
        case atStart => exact ⟨0, rfl, by omega, HG.out, HG'.out.rt, HB.out⟩
        case round =>
          obtain ⟨k, rfl, hk, HGx, HRx, HBx⟩ := hrel
          have qh := HGx.out.rt.head_cell
          rw [← HN.out] at qh
          have qh2 := HRx.out.head_cell
          rw [← HN'.out] at qh2
          by_cases hkn : k < n
          · obtain ⟨vb, rfl, hcell⟩ := HGx.out.viewAt k hkn
            obtain ⟨q0, q1, q2⟩ := HGx.out.rt.at (i := k) (by rw [← HN.out]; exact hkn)
            obtain ⟨sp, hsp⟩ : ∃ s, s = ns st k := ⟨_, rfl⟩
            rw [← hsp] at q0 q1 q2
            have HSP := Lib.hid hsp
            clear hsp qh2
            go_wp2_with fail
            have hdr := HGx.out.turn ((Turn.refl (fun _ => False) _).drew) (fun _ _ => id)
            have HD := Lib.hid hdr
            have HRD := Lib.hid (HRx.out.drewN 1)
            have HBD := Lib.hid (HBx.out.drew)
            have hbw := HBx.out.size
            clear hdr
            go_region_held3 (fun w' => w'.cell? ⟨w2.heap.size, 0, none⟩ = some (.slice (some ⟨g, 0, none⟩) n cap) ∧ w'.cell? ⟨vb, k, none⟩ = some (.pointer (some ⟨x.B k, 0, none⟩)) ∧ w'.cell? ⟨g, k * 3, none⟩ = some (.int .i64 sp.par) ∧ w'.cell? ⟨g, k * 3 + 1, none⟩ = some (.int .i64 sp.left) ∧ w'.cell? ⟨g, k * 3 + 2, none⟩ = some (.int .i64 sp.cause))
              (first | exact ⟨qh, hcell, q0, q1, q2⟩ | exact ⟨rh3, vc3, r0, r1', r2'⟩)
              (first
                | (go_at_call 21; refine (told_any x st k sp HSP.out _ HD.out.ht (by rw [← HN.out]; exact hkn)).mono ?_; rintro e3 w3 ⟨rfl, h3, t3⟩; have tl := HD.out.tell (by rw [← HN.out]; exact Nat.le_refl _) (by exact hbw) h3 t3; have G3 := Lib.hid tl.1; have B3' := Lib.hid (HD.out.bel tl.2 HBD.out); have RR3 := Lib.hid (HRD.out.turn t3 (fun hh => HAP.out (w2.heap.size + 1) (.inl hh) (.inr (.inr (.inl rfl)))) (fun hh => HAP.out g' (.inl hh) (.inr (.inr (.inr rfl))))); obtain ⟨r0, r1', r2'⟩ := G3.out.rt.at (i := k) (by rw [← HN.out]; exact hkn); rw [← HSP.out] at r0 r1' r2'; have rh3 := G3.out.rt.head_cell; rw [← HN.out] at rh3; have vc3 := G3.out.cellAt hkn; clear tl h3 t3))
            go_wp2
            go_roundw
            case rel => exact ⟨k + 1, by go_num, by omega, G3.out, RR3.out, B3'.out⟩
            case measure => simp [intOf]; omega
          · have e : k = n := by omega
            subst e
            go_wp2
            go_ret
            exact ⟨by simp, HBx.out⟩
end Go.Proofs.Ytcfdpeafnpeddaa
