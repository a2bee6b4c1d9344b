/- Every script's answers are the document's: what the check does. -/
import Derived.Test.YtmmfobbalhpomaaRJ
import Derived.Test.YtmmfobbalhpomaaRK
namespace Go.Proofs.Ytmmfobbalhpomaa
set_option linter.unusedVariables false
set_option linter.unusedSimpArgs false
open Go.RowKit

set_option maxRecDepth 100000 in
set_option maxHeartbeats 16000000 in
theorem plays_walk (o bud : Int) (A : Option Addr) (n cap : Nat) (xs : List POp) (w : World) (hn : xs.length = n) (hm : n < 4000000000000) (h : SliceRd w A 8 POp.cells xs) :
    Calls Try.prog 4 #[.int .i64 o, .int .i64 bud, .slice A n cap] w fun e w' => e = .returned (.bool true) ∧ Below w.heap.size w w' := by
  have HN := Lib.hid hn
  have HR := Lib.hid h
  clear hn h
  go_enter Try.func4, Try.ntmps4
  go_wp2_with fail
  refine (anchor_any w).mono ?_
  rintro e w1 ⟨rfl, b1⟩
  have B1 := Lib.hid b1
  clear b1
  by_cases hne : newE o bud = 0
  · obtain ⟨ho, hb1, hb2⟩ := newE_zero hne
    have HO := Lib.hid ho
    clear hne
    go_wp2_with fail
    refine (new_any o bud HO.out hb1 hb2 w1).mono ?_
    rintro e w2 ⟨rfl, p2, b2⟩
    obtain ⟨b, hb⟩ : ∃ z, z = w1.heap.size := ⟨_, rfl⟩
    rw [← hb] at p2 b2 ⊢
    have P2 := Lib.hid p2
    have S1 := Lib.hid (show w.heap.size ≤ b by have := B1.out.size; omega)
    have B2 := Lib.hid (B1.out.trans (b2.mono (by have := S1.out; omega)))
    clear p2 b2 hb
    go_wp2_with fail
    refine (refnew_any o bud HO.out hb1 hb2 w2).mono ?_
    rintro e w3 ⟨rfl, p3, b3⟩
    obtain ⟨r, hr⟩ : ∃ z, z = w2.heap.size := ⟨_, rfl⟩
    have S2 := Lib.hid (show w.heap.size ≤ r by have := B2.out.size; omega)
    have PB3 := Lib.hid (P2.out.below b3)
    rw [← hr] at p3 b3 ⊢
    have BO := Lib.hid (show Both w3 b r w.heap.size o bud 0 0 (.slice none 0 0) (.slice none 0 0) [] from ⟨⟨PB3.out.head, Own.nil _ _ _ _ _, PB3.out.ord, PB3.out.len, PB3.out.le, PB3.out.top, PB3.out.pk0, PB3.out.pkl⟩, ⟨p3.head, Own.nil _ _ _ _ _⟩⟩)
    have B3 := Lib.hid (B2.out.trans (b3.mono (by have := S2.out; omega)))
    clear p3 b3 hr P2 PB3
    go_wp2_with fail
    go_loopw [42] (fun ix wr => ∃ (i : Nat) (y pk : Int) (v v' : Value) (rows : List Row), i ≤ n ∧ ix = .int .i64 i ∧ Hid (Both wr b r w.heap.size o bud y pk v v' rows) ∧ Hid (Below w.heap.size w wr)) (fun ix _ => n - (intOf ix).toNat)
    case atStart => exact ⟨0, 0, 0, _, _, [], by omega, rfl, BO, B3⟩
    case round =>
      clear BO B3
      obtain ⟨i, y, pk, v, v', rows, hi, rfl, HP, HB⟩ := hrel
      by_cases hlt : i < n
      · obtain ⟨x, hx⟩ : ∃ x, xs[i]? = some x := ⟨_, List.getElem?_eq_getElem (by rw [HN.out]; exact hlt)⟩
        obtain ⟨b0, off, rfl, hb0, hc⟩ := (HR.out.below HB.out).at hx
        obtain ⟨kd, x0, x1, x2, x3, x4, x5, x6⟩ := x
        have k0 := hc 0 (by omega)
        have k1 := hc 1 (by omega)
        have k2 := hc 2 (by omega)
        have k3 := hc 3 (by omega)
        have k4 := hc 4 (by omega)
        have k5 := hc 5 (by omega)
        have k6 := hc 6 (by omega)
        have k7 := hc 7 (by omega)
        simp only [POp.cells, List.getElem?_cons_zero, List.getElem?_cons_succ, Nat.add_zero] at k0 k1 k2 k3 k4 k5 k6 k7
        have hi0 : (0 : Int) ≤ (i : Int) := by omega
        have hi1 : (i : Int) < (n : Int) := by omega
        have hba := (Below.refl wr.heap.size wr).alloc (Nat.le_refl _) (.cells #[.int .i64 kd, .int .i64 x0, .int .i64 x1, .int .i64 x2, .int .i64 x3, .int .i64 x4, .int .i64 x5, .string x6] 40)
        have BX := Lib.hid (RowAt.new wr 40 [.int .i64 kd, .int .i64 x0, .int .i64 x1, .int .i64 x2, .int .i64 x3, .int .i64 x4, .int .i64 x5, .string x6])
        have HPA := Lib.hid (HP.out.below hba)
        have HBA := Lib.hid (HB.out.trans (hba.mono HB.out.size))
        have SA := Lib.hid (show w.heap.size ≤ wr.heap.size from HB.out.size)
        clear hc hx hba
        by_cases c1 : kd = 1
        · subst c1
          have hxc := BX.out.cell
          go_wp2_with fail
          refine (add_any b w.heap.size o bud y pk v rows ⟨x0, x1, x2, x3, x4, x5, x6⟩ _ HPA.out.bp (by simp; have := SA.out; omega)).mono ?_
          rintro e w4 ⟨he, hif, t4⟩
          obtain ⟨ec, hec⟩ : ∃ z, z = addC bud y ⟨x0, x1, x2, x3, x4, x5, x6⟩ := ⟨_, rfl⟩
          rw [← hec] at he hif
          subst he
          have HEC := Lib.hid hec
          have HIF := Lib.hid hif
          have RP4 := Lib.hid (HPA.out.one t4)
          have HLE := Lib.hid (show (rows.length : Int) * 7 ≤ y ∧ y ≤ bud ∧ bud ≤ 16777216 ∧ 0 ≤ pk ∧ pk ≤ bud from ⟨HPA.out.bp.len, HPA.out.bp.le, HPA.out.bp.top, HPA.out.bp.pk0, HPA.out.bp.pkl⟩)
          have B4 := Lib.hid (Turn.down HBA.out (Nat.le_refl _) t4 fun q hq => by
            rcases hq with rfl | hq
            · exact S1.out
            · exact (Own.base HPA.out.bp.own q hq).1)
          have BX4 := Lib.hid (BX.out.turn t4 fun e => by
            rcases e with e | e
            · exact BX.out.ne HPA.out.bp.head (by decide) e
            · exact own_far HPA.out.bp.own BX.out (by decide) e)
          have S4 := Lib.hid t4.size
          clear hif t4 hec hxc
          have hxc := BX4.out.cell
          go_wp2_with fail
          clear hxc
          refine (plain7 x0 x1 x2 x3 x4 x5 x6 _).mono ?_
          rintro e w5 ⟨rfl, b5⟩
          have RP5 := Lib.hid (RP4.out.below b5)
          have B5 := Lib.hid (B4.out.trans (b5.mono (Nat.le_trans (show w.heap.size ≤ wr.heap.size + 1 by have := SA.out; omega) (by have := S4.out; simpa using this))))
          have HIF5 := Lib.hid (show (if ec = 0 then ∃ v1 pk', BP w5 b w.heap.size o bud (y + sizeF ⟨x0, x1, x2, x3, x4, x5, x6⟩) pk' v1 (rows ++ [⟨x0, x1, x2, x3, x4, x5, x6⟩]) ∧ pk' = (if pk < y + sizeF ⟨x0, x1, x2, x3, x4, x5, x6⟩ then y + sizeF ⟨x0, x1, x2, x3, x4, x5, x6⟩ else pk) else BP w5 b w.heap.size o bud y pk v rows) by
            have h := HIF.out
            by_cases h0 : ec = 0
            · rw [if_pos h0] at h ⊢
              obtain ⟨v1, pk', h1, h2, h3⟩ := h
              exact ⟨v1, pk', h1.below b5, h3⟩
            · rw [if_neg h0] at h ⊢
              exact h.below b5)
          clear b5 HIF RP4 B4 BX4
          go_wp2_with fail
          refine (refadd_any r w.heap.size o bud y pk v' rows ⟨x0, x1, x2, x3, x4, x5, x6⟩ w5 RP5.out B5.out.size HLE.out.1 HLE.out.2.1 HLE.out.2.2.1 HLE.out.2.2.2.1 HLE.out.2.2.2.2).mono ?_
          rintro e w6 ⟨he, hif, t6⟩
          rw [← HEC.out] at he hif
          subst he
          have B6 := Lib.hid (Turn.down B5.out (Nat.le_refl _) t6 fun q hq => by
            rcases hq with rfl | hq
            · exact S2.out
            · exact (Own.base RP5.out.own q hq).1)
          have HNEW := Lib.hid (show ∃ y2 pk2 v2 v3 rows2, Both w6 b r w.heap.size o bud y2 pk2 v2 v3 rows2 by
            have h := HIF5.out
            by_cases h0 : ec = 0
            · rw [if_pos h0] at h hif
              obtain ⟨v1, pk1, h1, h3⟩ := h
              obtain ⟨v2, pk2, k1, k2, k3⟩ := hif
              rw [← h3] at k3
              subst k3
              exact ⟨_, _, _, _, _, ⟨Both.two h1 RP5.out t6, k1⟩⟩
            · rw [if_neg h0] at h hif
              exact ⟨_, _, _, _, _, ⟨Both.two h RP5.out t6, hif⟩⟩)
          clear hif t6
          go_wp2_with fail
          obtain ⟨y2, pk2, v2, v3, rows2, hb2⟩ := HNEW.out
          exact ⟨⟨i + 1, y2, pk2, v2, v3, rows2, by omega, rfl, Lib.hid hb2, B6⟩, by show n - ((i : Int) + 1).toNat < n - (i : Int).toNat; omega⟩
        by_cases c2 : kd = 2
        · subst c2
          have hlr := HPA.out.bp.len
          have hlb := HPA.out.bp.le
          have hlt2 := HPA.out.bp.top
          have HRL := Lib.hid (show rows.length < 16777216 by omega)
          clear hlr hlb hlt2
          go_wp2_with fail
          refine (take_any b w.heap.size o bud y pk v rows _ HPA.out.bp).mono ?_
          rintro e w4 ⟨v1, o1, rfl, s1, ow1, p1, t4⟩
          have RP4 := Lib.hid (HPA.out.one (t4.mono fun _ _ e => .inl e))
          have B4 := Lib.hid (Turn.down HBA.out (Nat.le_refl _) t4 fun q hq => by have e : q = b := hq; rw [e]; exact S1.out)
          have P4 := Lib.hid p1
          have OW4 := Lib.hid ow1
          have SS4 := Lib.hid s1
          clear p1 ow1 s1 t4
          obtain ⟨A1, d1, rfl⟩ := own_forms OW4.out
          have hl1 := SS4.out.length
          rw [List.length_map, hl1] at OW4 ⊢
          go_wp2_with fail
          refine (reftake_any r w.heap.size o bud y pk v' rows w4 RP4.out HO.out HRL.out).mono ?_
          rintro e w5 ⟨v2, o2, rfl, s2, ow2, p2, t5⟩
          obtain rfl : o1 = o2 := SS4.out.unique HO.out s2
          have P5 := Lib.hid (Both.two P4.out RP4.out (t5.mono fun _ _ e => .inl e))
          have R5 := Lib.hid p2
          have OW5 := Lib.hid (Own.turn OW4.out t5 fun k hk e => by have e' : k = r := e; exact own_far OW4.out RP4.out.head (by decide) (by rw [hk, e']))
          have OX5 := Lib.hid ow2
          have B5 := Lib.hid (Turn.down B4.out (Nat.le_refl _) t5 fun q hq => by have e : q = r := hq; rw [e]; exact S2.out)
          clear ow2 p2 t5 s2
          obtain ⟨A2, d2, rfl⟩ := own_forms OX5.out
          rw [List.length_map, hl1] at OX5 ⊢
          clear hl1
          go_wp2_with fail
          refine (samerows_any (o1.map Nm.row) rows.length A1 A2 d1 d2 w5 (by rw [List.length_map]; exact SS4.out.length) (by have := HRL.out; omega) (Own.rd OW5.out Row.cells_length) (Own.rd OX5.out Row.cells_length)).mono ?_
          rintro e w6 ⟨rfl, b6⟩
          have P6 := Lib.hid (show Both w6 b r w.heap.size o bud 0 pk (.slice none 0 0) (.slice none 0 0) [] from ⟨P5.out.below b6, R5.out.below b6⟩)
          have B6 := Lib.hid (B5.out.trans (b6.mono B5.out.size))
          clear b6
          go_wp2_with fail
          exact ⟨⟨i + 1, 0, pk, _, _, [], by omega, rfl, P6, B6⟩, by show n - ((i : Int) + 1).toNat < n - (i : Int).toNat; omega⟩
        by_cases c3 : kd = 3
        · subst c3
          obtain ⟨A2, d2, hv2⟩ := own_forms HPA.out.rp.own
          obtain ⟨nr, hnr⟩ : ∃ z, z = rows.length := ⟨_, rfl⟩
          have HPD := Lib.hid (show BP (wr.alloc (.cells #[.int .i64 3, .int .i64 x0, .int .i64 x1, .int .i64 x2, .int .i64 x3, .int .i64 x4, .int .i64 x5, .string x6] 40)).drew b w.heap.size o bud y pk v rows from ⟨HPA.out.bp.head, HPA.out.bp.own, HPA.out.bp.ord, HPA.out.bp.len, HPA.out.bp.le, HPA.out.bp.top, HPA.out.bp.pk0, HPA.out.bp.pkl⟩)
          have HRD := Lib.hid (show RP (wr.alloc (.cells #[.int .i64 3, .int .i64 x0, .int .i64 x1, .int .i64 x2, .int .i64 x3, .int .i64 x4, .int .i64 x5, .string x6] 40)).drew r w.heap.size o bud y pk v' rows from ⟨HPA.out.rp.head, HPA.out.rp.own⟩)
          have HBD := Lib.hid HBA.out.drew
          go_wp2_with fail
          obtain ⟨W, hW⟩ : ∃ z, z = wr.alloc (.cells #[.int .i64 3, .int .i64 x0, .int .i64 x1, .int .i64 x2, .int .i64 x3, .int .i64 x4, .int .i64 x5, .string x6] 40) := ⟨_, rfl⟩
          rw [← hW] at HPD HRD HBD ⊢
          clear hW
          have hcr := HRD.out.head.cell
          rw [hv2, ← hnr] at hcr
          refine wp_region_still_lit (by kernel_rfl) (by kernel_rfl) ?_
          change wpStill _ _ W.drew _ _ _
          have hby := bytes_any b w.heap.size o bud y pk v rows _ HPD.out
          have hle := len_any b w.heap.size o bud y pk v rows _ HPD.out
          have hpe := peak_any b w.heap.size o bud y pk v rows _ HPD.out
          rw [← hnr] at hle
          clear hnr hv2
          repeat (first | still_step | still_call hby.mono (fun _ _ h => ⟨h.1, h.2.symm⟩) | still_call hle.mono (fun _ _ h => ⟨h.1, h.2.symm⟩) | still_call hpe.mono (fun _ _ h => ⟨h.1, h.2.symm⟩))
          refine wpStill_nil ?_
          change _
          clear hcr hby hle hpe
          go_wp2_with fail
          exact ⟨⟨i + 1, y, pk, v, v', rows, by omega, rfl, Lib.hid ⟨HPD.out, HRD.out⟩, HBD⟩, by show n - ((i : Int) + 1).toNat < n - (i : Int).toNat; omega⟩
        · have d1 : (kd == 1) = false := by simpa using c1
          have d2 : (kd == 2) = false := by simpa using c2
          have d3 : (kd == 3) = false := by simpa using c3
          go_wp2_with fail
          exact ⟨⟨i + 1, y, pk, v, v', rows, by omega, rfl, HPA, HBA⟩, by show n - ((i : Int) + 1).toNat < n - (i : Int).toNat; omega⟩
      · obtain rfl : n = i := by omega
        clear hlt hi
        have hlr := HP.out.bp.len
        have hlb := HP.out.bp.le
        have hlt2 := HP.out.bp.top
        have HRL := Lib.hid (show rows.length < 16777216 by omega)
        clear hlr hlb hlt2
        obtain ⟨A2, d2, rfl⟩ := own_forms HP.out.rp.own
        obtain ⟨nr, hnr⟩ : ∃ z, z = rows.length := ⟨_, rfl⟩
        have HNR := Lib.hid hnr
        have HPD := Lib.hid (show BP wr.drew b w.heap.size o bud y pk v rows from ⟨HP.out.bp.head, HP.out.bp.own, HP.out.bp.ord, HP.out.bp.len, HP.out.bp.le, HP.out.bp.top, HP.out.bp.pk0, HP.out.bp.pkl⟩)
        have HRD := Lib.hid (show RP wr.drew r w.heap.size o bud y pk (.slice A2 rows.length d2) rows from ⟨HP.out.rp.head, HP.out.rp.own⟩)
        have HBD := Lib.hid HB.out.drew
        have q2 := HRD.out.head.cell 2
        have q3 := HRD.out.head.cell 3
        have q4 := HRD.out.head.cell 4
        simp only [List.getElem?_cons_succ, List.getElem?_cons_zero] at q2 q3 q4
        rw [← hnr] at q4
        have hle := len_any b w.heap.size o bud y pk v rows _ HPD.out
        rw [← hnr] at hle
        have HLE := Lib.hid hle
        clear hnr hle
        go_wp2_with fail
        refine wp_region_split 26 (by kernel_rfl) (by kernel_rfl) (by kernel_rfl) ?_
        simp only [List.take_succ_cons, List.take_zero]
        have hby := bytes_any b w.heap.size o bud y pk v rows _ HPD.out
        have hpe := peak_any b w.heap.size o bud y pk v rows _ HPD.out
        have hle := HLE.out
        repeat (first | still_step | still_call hby.mono (fun _ _ h => ⟨h.1, h.2.symm⟩) | still_call hle.mono (fun _ _ h => ⟨h.1, h.2.symm⟩) | still_call hpe.mono (fun _ _ h => ⟨h.1, h.2.symm⟩))
        refine wpStill_nil ?_
        clear hby hpe hle q2 q3 q4
        change wpAny _ _ _ _ 8 _ _ wr.drew
        refine wpAny_take (i := 26) (v := ?_) rfl (by kernel_rfl) (by kernel_rfl) (by kernel_rfl) (fun _ _ _ h => h) (Or.inl ⟨by rfl, ?_⟩) ?_
        rotate_left
        · intro w; go_simp
          with_reducible rfl
        refine wpAny_take (i := 27) (v := ?_) rfl (by kernel_rfl) (by kernel_rfl) (by kernel_rfl) (fun _ _ _ h => h) (Or.inl ⟨by rfl, ?_⟩) ?_
        rotate_left
        · intro w; go_simp
          with_reducible rfl
        refine wpAny_take (i := 29) (v := ?_) rfl (by kernel_rfl) (by kernel_rfl) (by kernel_rfl) (fun _ _ _ h => h) (Or.inl ⟨by rfl, ?_⟩) ?_
        rotate_left
        · intro w; go_simp
          with_reducible rfl
        refine wpAny_ready (rs := [28]) (by kernel_rfl) (by simp) ?_
        refine AllReady.cons rfl (fun K hK => ?_) AllReady.nil
        go_simp
        go_wp2_with fail
        refine (take_any b w.heap.size o bud y pk v rows _ HPD.out).mono ?_
        rintro e w4 ⟨v1, o1, rfl, s1, ow1, p1, t4⟩
        have RP4 := Lib.hid (Both.one ⟨HPD.out, HRD.out⟩ (t4.mono fun _ _ e => .inl e))
        have P4 := Lib.hid p1
        have OW4 := Lib.hid ow1
        have SS4 := Lib.hid s1
        have B4 := Lib.hid (Turn.down HBD.out (Nat.le_refl _) t4 fun q hq => by have e : q = b := hq; rw [e]; exact S1.out)
        clear p1 ow1 s1 t4
        go_wp2_with fail
        refine wpAny_ready (rs := [30]) (by kernel_rfl) (by simp) ?_
        refine AllReady.cons rfl (fun K hK => ?_) AllReady.nil
        go_simp
        go_wp2_with fail
        refine (reftake_any r w.heap.size o bud y pk (.slice A2 rows.length d2) rows w4 RP4.out HO.out HRL.out).mono ?_
        rintro e w5 ⟨v2, o2, rfl, s2, ow2, p2, t5⟩
        have OW5 := Lib.hid (Own.turn OW4.out t5 fun k hk e => by have e' : k = r := e; exact own_far OW4.out RP4.out.head (by decide) (by rw [hk, e']))
        have OX5 := Lib.hid ow2
        have SS5 := Lib.hid s2
        have B5 := Lib.hid (Turn.down B4.out (Nat.le_refl _) t5 fun q hq => by have e : q = r := hq; rw [e]; exact S2.out)
        clear s2 ow2 p2 t5
        go_wp2_with fail
        refine wpAny_ready (rs := [31]) (by kernel_rfl) (by simp) ?_
        refine AllReady.cons rfl (fun K hK => ?_) AllReady.nil
        go_simp
        go_wp2_with fail
        refine (same_forms OW5.out OX5.out SS4.out SS5.out HO.out HRL.out).mono ?_
        rintro e w6 ⟨rfl, b6⟩
        have B6 := Lib.hid (B5.out.trans (b6.mono B5.out.size))
        clear b6
        go_wp2_with fail
        refine wpAny_take (i := 32) (v := ?_) rfl (by kernel_rfl) (by kernel_rfl) (by kernel_rfl) (fun _ _ _ h => h) (Or.inl ⟨by rfl, ?_⟩) ?_
        rotate_left
        · intro w; go_simp
          with_reducible rfl
        refine wpAny_take (i := 33) (v := ?_) rfl (by kernel_rfl) (by kernel_rfl) (by kernel_rfl) (fun _ _ _ h => h) (Or.inl ⟨by rfl, ?_⟩) ?_
        rotate_left
        · intro w; go_simp
          with_reducible rfl
        refine wpAny_done (by kernel_rfl) ?_ _
        go_wp2_with fail
        go_ret
        exact ⟨rfl, B6.out⟩
  · obtain ⟨ee, hee⟩ : ∃ z, z = newE o bud := ⟨_, rfl⟩
    have HEE := Lib.hid hee
    have HNE := Lib.hid hne
    have h5 : ee ≠ 0 := by rw [hee]; exact hne
    have h7 : (ee == 0) = false := by simpa using h5
    have h8 : (ee != 0) = true := by simpa using h5
    clear hne hee
    go_wp2_with fail
    refine (new_no o bud HNE.out w1).mono ?_
    rintro e w2 ⟨he, rfl⟩
    rw [← HEE.out] at he
    subst he
    go_wp2_with fail
    refine (refnew_no o bud HNE.out w1).mono ?_
    rintro e w2 ⟨he, rfl⟩
    rw [← HEE.out] at he
    subst he
    clear HEE
    go_wp2_with fail
    all_goals (go_ret; exact ⟨rfl, B1.out⟩)
end Go.Proofs.Ytmmfobbalhpomaa
