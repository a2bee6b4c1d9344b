/- The answers of a store are memory of their own: what the check does. -/
import Derived.Test.YtkbnfnfjmofcmaaQa
import Derived.Test.YtkbnfnfjmofcmaaMk
import Derived.Laws.DeepStrings4
import Derived.Test.YtkbnfnfjmofcmaaOpen
namespace Go.Proofs.Ytkbnfnfjmofcmaa
set_option linter.unusedVariables false
set_option linter.unusedSimpArgs false
open Go.RowKit

/-- What is not marked. -/
structure MRest (w0 : World) (F : Nat → Prop) (p cnt N : Nat) (st : ByteArray → List Ver) (gb gl Bb Bl cb cl n m : Nat) (ks : List ByteArray) (w : World) : Prop where
  st : SAt F w p cnt N st
  b : Own w Bb 27 4 Ver.cells (.slice (some ⟨gb, 0, none⟩) n cb) (zs n)
  l : Own w Bl 9 1 strC (.slice (some ⟨gl, 0, none⟩) m cl) ks
  low : Below w0.heap.size w0 w
theorem MRest.turn {S : Nat → Prop} {w0 w w' : World} {F : Nat → Prop} {p cnt N : Nat} {st : ByteArray → List Ver} {gb gl Bb Bl cb cl n m H : Nat} {ks : List ByteArray} (h : MRest w0 F p cnt N st gb gl Bb Bl cb cl n m ks w) (hH : w0.heap.size ≤ H ∧ ∀ i, F i → i < H) (ht : Turn S w w') (hs : ∀ k, S k → H ≤ k ∧ k ≠ gb ∧ k ≠ gl) : MRest w0 F p cnt N st gb gl Bb Bl cb cl n m ks w' := by
  refine ⟨h.st.turn ht fun i hi e => ?_, h.b.turn ht fun k hk e => ?_, h.l.turn ht fun k hk e => ?_, h.low.trans (ht.below h.low.size fun k hk e => ?_)⟩
  · have := hH.2 i hi; have := hs i e; omega
  · have e1 : gb = k := Option.some.inj hk
    have := hs k e
    omega
  · have e1 : gl = k := Option.some.inj hk
    have := hs k e
    omega
  · have := hs k e; omega
theorem MRest.below {w0 w w' : World} {F : Nat → Prop} {p cnt N : Nat} {st : ByteArray → List Ver} {gb gl Bb Bl cb cl n m : Nat} {ks : List ByteArray} (h : MRest w0 F p cnt N st gb gl Bb Bl cb cl n m ks w) (hb : Below w.heap.size w w') : MRest w0 F p cnt N st gb gl Bb Bl cb cl n m ks w' :=
  ⟨h.st.below hb, h.b.below hb, h.l.below hb, h.low.trans (hb.mono h.low.size)⟩
theorem own_some {α : Type} {w : World} {base : Nat} {e : TypeId} {size : Nat} {f : α → List Value} {v : Value} {xs : List α} (h : Own w base e size f v xs) (hx : xs ≠ []) : ∃ g c, v = .slice (some ⟨g, 0, none⟩) xs.length c ∧ base ≤ g ∧ g < w.heap.size := by
  rcases h.cases with ⟨_, h⟩ | ⟨g, cap, rest, rfl, hb, -, -, hr⟩
  · exact absurd h hx
  · exact ⟨g, cap, rfl, hb, hr.lt⟩
theorem own_forms {α : Type} {w : World} {base : Nat} {e : TypeId} {size : Nat} {f : α → List Value} {v : Value} {xs : List α} (h : Own w base e size f v xs) : ∃ A c, v = .slice A xs.length c := by
  rcases h.cases with ⟨rfl, rfl⟩ | ⟨g, cap, rest, rfl, -⟩
  · exact ⟨none, 0, rfl⟩
  · exact ⟨_, _, rfl⟩
theorem own_apart {α β : Type} {w : World} {base base' : Nat} {e e' : TypeId} {s s' : Nat} {f : α → List Value} {f' : β → List Value} {v v' : Value} {xs : List α} {ys : List β} (h : Own w base e s f v xs) (h' : Own w base' e' s' f' v' ys) (ne : e ≠ e') (b : Nat) (hb : v.ownBlock = some b) : v'.ownBlock ≠ some b := by
  intro hb'
  rcases h.cases with ⟨rfl, -⟩ | ⟨g, cap, rest, rfl, -, -, -, hr⟩
  · simp [Value.ownBlock] at hb
  · rcases h'.cases with ⟨rfl, -⟩ | ⟨g', cap', rest', rfl, -, -, -, hr'⟩
    · simp [Value.ownBlock] at hb'
    · have e1 : g = b := by simpa [Value.ownBlock] using hb
      have e2 : g' = b := by simpa [Value.ownBlock] using hb'
      subst e1
      subst e2
      exact hr.ne hr' ne rfl
theorem Own.rd' {α : Type} {w : World} {base : Nat} {e : TypeId} {size : Nat} {f : α → List Value} {A : Option Addr} {n cap : Nat} {xs : List α} (h : Own w base e size f (.slice A n cap) xs) (hf : ∀ x, (f x).length = size) : SliceRd w A size f xs := by
  rcases h.cases with ⟨e, rfl⟩ | ⟨g, cap', rest, e, -, -, -, hr⟩
  · exact .inl rfl
  · injection e with e1 e2 e3
    subst e1
    refine .inr ⟨g, 0, rfl, hr.lt, fun i x hx j hj => ?_⟩
    have hi := (List.getElem?_eq_some_iff.1 hx).1
    have hend := flat_end (size := size) hi
    rw [Nat.zero_add, hr.cell, List.getElem?_append_left (by rw [flat_length hf]; omega)]
    exact flat_at hf xs i j hj hx
def markF {α : Type} (x : α) (i : Nat) (l : List α) : List α := List.replicate i x ++ l.drop i
theorem markF_zero {α : Type} (x : α) (l : List α) : markF x 0 l = l := by simp [markF]
theorem markF_length {α : Type} (x : α) {i : Nat} {l : List α} (h : i ≤ l.length) : (markF x i l).length = l.length := by simp [markF]; omega
theorem markF_set {α : Type} (x : α) {i : Nat} {l : List α} (h : i < l.length) : (markF x i l).set i x = markF x (i + 1) l := by
  unfold markF
  rw [List.set_append_right _ _ (by simp), List.length_replicate, Nat.sub_self, List.drop_eq_getElem_cons h, List.set_cons_zero, List.replicate_succ', List.append_assoc]
  rfl
theorem markF_all {α : Type} (x : α) (l : List α) : markF x l.length l = List.replicate l.length x := by simp [markF]
def v5 : Ver := ⟨0, -5, false, ⟨#[]⟩⟩
def v6 : Ver := ⟨0, -6, false, ⟨#[]⟩⟩
def sQ : ByteArray := ⟨#[63]⟩
def sX : ByteArray := ⟨#[33]⟩
theorem str_len (k : ByteArray) : (strC k).length = 1 := rfl
theorem str_one (x : ByteArray) : ∀ u ∈ strC x, u.oneCell' = true := by
  intro u hu
  simp [strC] at hu
  subst hu
  rfl
theorem letters_cut : ∀ i, i < 52 → letters.extract i (i + 1) = ⟨#[letter i]⟩ := by decide +kernel
theorem run_letter {i : Nat} (hi : i < 52) (wx : World) : (Instr.slice 9 (.string letters) (some (.int .i64 (i : Int))) (some (.int .i64 ((i : Int) + 1))) none).run Try.prog wx = .ok (.string ⟨#[letter i]⟩) wx := by
  have hs : letters.size = 52 := rfl
  rw [run_slice_string_if wx 9 letters .i64 .i64 i ((i : Int) + 1) Try.underlying9, if_pos (by rw [hs]; omega), if_pos (by omega), Int.toNat_natCast, show ((i : Int) + 1).toNat = i + 1 by omega, letters_cut i hi]
theorem letter_add (i : Nat) : (⟨#[letter i]⟩ : ByteArray) ++ (⟨#[113]⟩ : ByteArray) = nm i := by
  unfold nm
  apply ByteArray.ext
  simp
set_option maxRecDepth 100000 in
set_option maxHeartbeats 32000000 in
theorem memory_walk (n : Int) (w : World) : Calls Try.prog 5 #[.int .i64 n] w fun e w' => e = .returned (.bool true) ∧ Below w.heap.size w w' := by
  by_cases h1 : n < 1
  · go_enter Try.func5, Try.ntmps5
    go_wp2_with fail
    refine (anchor_any w).mono ?_
    rintro e w1 ⟨rfl, b1⟩
    go_wp2_with fail
    go_ret
    exact ⟨rfl, b1⟩
  · by_cases h2 : 50 < n
    · go_enter Try.func5, Try.ntmps5
      go_wp2_with fail
      refine (anchor_any w).mono ?_
      rintro e w1 ⟨rfl, b1⟩
      go_wp2_with fail
      go_ret
      exact ⟨rfl, b1⟩
    · obtain ⟨n, rfl⟩ : ∃ m : Nat, n = m := ⟨n.toNat, by omega⟩
      have n1 : 1 ≤ n := by omega
      have n2 : n ≤ 50 := by omega
      go_enter Try.func5, Try.ntmps5
      go_wp2_with fail
      refine (anchor_any w).mono ?_
      rintro e w1 ⟨rfl, b1⟩
      have B1 := Lib.hid b1
      clear b1
      go_wp2_with fail
      refine (new_any w1).mono ?_
      rintro e w2 ⟨p, rfl, s2, b2⟩
      have S2 := Lib.hid (show SAt' w.heap.size w2 p (2 * 0) (stS 0) from ⟨_, s2, fun i hi => Nat.le_trans B1.out.size hi.1⟩)
      have B2 := Lib.hid (B1.out.trans (b2.mono B1.out.size))
      clear s2 b2 B1
      go_wp2_with fail
      go_loopw [5] (fun ix wr => ∃ i : Nat, i ≤ n ∧ ix = .int .i64 i ∧ Hid (SAt' w.heap.size wr p (2 * i) (stS i)) ∧ Hid (Below w.heap.size w wr)) (fun ix _ => n - (intOf ix).toNat)
      case atStart => exact ⟨0, by omega, rfl, S2, B2⟩
      case round =>
        clear S2 B2
        obtain ⟨i, hi, rfl, HS, HB⟩ := hrel
        by_cases hlt : i < n
        · have HF := Lib.hid (stS_facts i (by omega))
          have FZ := Lib.hid (show refuse zK (vv i i) ((stS i).2 zK) = 0 by rw [HF.out.z]; exact refuse_z (by omega))
          have hi0 : (0 : Int) ≤ (i : Int) := by omega
          have hi1 : (i : Int) < (n : Int) := by omega
          have hsl := run_letter (i := i) (by omega)
          unfold letters at hsl
          have hadd := letter_add i
          go_wp2_with fail
          refine (install_from w.heap.size p (2 * i) (stS i) zK (vv i i) wr HS.out HB.out.size (by decide) (by omega)).mono ?_
          rw [FZ.out]
          rintro e w3 ⟨rfl, s3, b3⟩
          have S3 := Lib.hid s3
          have B3 := Lib.hid (HB.out.trans b3)
          clear s3 b3
          go_wp2_with fail
          have HE := Lib.hid (play_ok (s := stS i) (k := zK) (v := vv i i) FZ.out)
          have FN := Lib.hid (show refuse (nm i) (vv i 0) ((play1 (stS i) zK (vv i i)).2 (nm i)) = 0 by
            rw [HE.out]
            simp only [upd]
            rw [if_neg (nm_ne i), HF.out.new i (Nat.le_refl _) (by omega)]
            exact refuse_n (by omega))
          clear hsl hadd
          refine (install_from w.heap.size p (2 * i + 1) (play1 (stS i) zK (vv i i)) (nm i) (vv i 0) w3 S3.out B3.out.size (by show (2 : Nat) ≤ maxLen; decide) (by omega)).mono ?_
          rw [FN.out]
          rintro e w4 ⟨rfl, s4, b4⟩
          have S4 := Lib.hid (show SAt' w.heap.size w4 p (2 * (i + 1)) (stS (i + 1)) from s4)
          have B4 := Lib.hid (B3.out.trans b4)
          clear s4 b4
          go_wp2_with fail
          exact ⟨⟨i + 1, by omega, rfl, S4, B4⟩, by show n - ((i : Int) + 1).toNat < n - (i : Int).toNat; omega⟩
        · obtain rfl : n = i := by omega
          have HF := Lib.hid (stS_facts n (by omega))
          have HN3 := Lib.hid (show 2 * n < 3000000000000 by omega)
          obtain ⟨F, hs0, hF0⟩ := HS.out
          have HS0 := Lib.hid hs0
          have HFB := Lib.hid hF0
          have HH := Lib.hid (show w.heap.size ≤ wr.heap.size ∧ ∀ i, F i → i < wr.heap.size from ⟨HB.out.size, by obtain ⟨_, _, _, _, _, _, _, _, h, _⟩ := hs0; exact h⟩)
          clear hlt hi hs0 hF0 HS
          go_wp2_with fail
          refine (chain_any F p _ _ _ zK wr HS0.out (by decide) HN3.out).mono ?_
          rw [HF.out.z]
          rintro e w3 ⟨v3, rfl, o3, b3⟩
          obtain ⟨ga, ca, rfl, hg1, hg2⟩ := own_some o3 (by intro h; have := congrArg List.length h; rw [zs_length] at this; simp at this; omega)
          rw [zs_length] at o3 ⊢
          have OA := Lib.hid o3
          have GA := Lib.hid (show wr.heap.size ≤ ga ∧ ga < w3.heap.size from ⟨hg1, hg2⟩)
          have HS3 := Lib.hid (HS0.out.below b3)
          have HB3 := Lib.hid (HB.out.trans (b3.mono HB.out.size))
          clear o3 b3 hg1 hg2 HS0
          go_wp2_with fail
          refine (chain_any F p _ _ _ zK w3 HS3.out (by decide) HN3.out).mono ?_
          rw [HF.out.z]
          rintro e w4 ⟨v4, rfl, o4, b4⟩
          obtain ⟨gb, cb, rfl, hg1, hg2⟩ := own_some o4 (by intro h; have := congrArg List.length h; rw [zs_length] at this; simp at this; omega)
          rw [zs_length] at o4 ⊢
          have OB := Lib.hid o4
          have GB := Lib.hid (show ga < gb ∧ gb < w4.heap.size from ⟨by have := GA.out; omega, hg2⟩)
          have OA4 := Lib.hid (OA.out.below b4)
          have HS4 := Lib.hid (HS3.out.below b4)
          have HB4 := Lib.hid (HB3.out.trans (b4.mono HB3.out.size))
          clear o4 b4 hg1 hg2 HS3 OA HB3
          go_wp2_with fail
          refine (keys_any F p _ _ _ w4 HS4.out HN3.out).mono ?_
          rintro e w5 ⟨v5', ks, rfl, hk5, o5, b5, -, -⟩
          have HKC := Lib.hid (keys_count n1 (by omega) HF.out.mem hk5)
          obtain ⟨m, hm⟩ : ∃ m, m = n + 1 := ⟨_, rfl⟩
          have HM := Lib.hid hm
          have HKL := Lib.hid (show ks.length = m by rw [hm]; exact HKC.out.1)
          obtain ⟨gk, ck, rfl, hg1, hg2⟩ := own_some o5 (by intro h; have := HKC.out.1; rw [h] at this; simp at this)
          rw [HKL.out] at o5 ⊢
          have OK := Lib.hid o5
          have GK := Lib.hid (show gb < gk ∧ gk < w5.heap.size from ⟨by have := GB.out; omega, hg2⟩)
          have OA5 := Lib.hid (OA4.out.below b5)
          have OB5 := Lib.hid (OB.out.below b5)
          have HS5 := Lib.hid (HS4.out.below b5)
          have HB5 := Lib.hid (HB4.out.trans (b5.mono HB4.out.size))
          have HK5 := Lib.hid hk5
          clear o5 b5 hg1 hg2 HS4 OA4 OB HB4 hm hk5
          go_wp2_with fail
          refine (keys_any F p _ _ _ w5 HS5.out HN3.out).mono ?_
          rintro e w6 ⟨v6', ks', rfl, hk6, o6, b6, -, -⟩
          obtain rfl : ks = ks' := HK5.out.unique hk6 (fun k => Iff.rfl)
          obtain ⟨gl, cl, rfl, hg1, hg2⟩ := own_some o6 (by intro h; have := HKC.out.1; rw [h] at this; simp at this)
          rw [HKL.out] at o6 ⊢
          have GL := Lib.hid (show gk < gl ∧ gl < w6.heap.size from ⟨by have := GK.out; omega, hg2⟩)
          have OA6 := Lib.hid (show Own w6 wr.heap.size 27 4 Ver.cells (.slice (some ⟨ga, 0, none⟩) n ca) (zs n) from OA5.out.below b6)
          have OK6 := Lib.hid (show Own w6 wr.heap.size 9 1 strC (.slice (some ⟨gk, 0, none⟩) m ck) ks from (OK.out.below b6).mono (by have := GA.out; have := GB.out; omega))
          have RS := Lib.hid (show MRest w F p _ _ _ gb gl w3.heap.size w5.heap.size cb cl n m ks w6 from ⟨HS5.out.below b6, OB5.out.below b6, o6, HB5.out.trans (b6.mono HB5.out.size)⟩)
          clear o6 b6 hg1 hg2 HS5 OA5 OB5 HB5 OK hk6 HK5
          have hnn : ((n : Int) != (n : Int)) = false := by simp
          have hmm : ((m : Int) != (n : Int) + 1) = false := by
            have := HM.out
            rw [bne_eq_false_iff_eq]
            omega
          have hm1 : (n : Int) + 1 = (m : Int) := by have := HM.out; omega
          have hm2 : (m : Int) ≤ 51 := by have := HM.out; omega
          have HAP := Lib.hid (show (wr.heap.size ≤ ga ∧ ga ≠ gb ∧ ga ≠ gl) ∧ (wr.heap.size ≤ gk ∧ gk ≠ gb ∧ gk ≠ gl) ∧ ga ≠ gk from by have := GA.out; have := GB.out; have := GK.out; have := GL.out; omega)
          obtain ⟨H0, hH0⟩ : ∃ z, z = wr.heap.size := ⟨_, rfl⟩
          rw [← hH0] at HAP OA6 OK6 HH
          go_wp2_with fail
          clear hnn hmm
          go_loopw [86] (fun ix wi => ∃ i : Nat, i ≤ n ∧ ix = .int .i64 i ∧ Hid (MRest w F p (stS n).1 (2 * n) (stS n).2 gb gl w3.heap.size w5.heap.size cb cl n m ks wi) ∧ Hid (Own wi H0 27 4 Ver.cells (.slice (some ⟨ga, 0, none⟩) n ca) (markF v5 i (zs n))) ∧ Hid (Own wi H0 9 1 strC (.slice (some ⟨gk, 0, none⟩) m ck) ks)) (fun ix _ => n - (intOf ix).toNat)
          case atStart => exact ⟨0, by omega, rfl, RS, by rw [markF_zero]; exact OA6, OK6⟩
          case round =>
            clear RS OA6 OK6
            obtain ⟨i, hi, rfl, HS, HA, HK⟩ := hrel
            have HML := Lib.hid (show (markF v5 i (zs n)).length = n by rw [markF_length v5 (by rw [zs_length]; exact hi), zs_length])
            by_cases hlt : i < n
            · obtain ⟨g1, x1, e1, hx1, hcc, hff, hlt1⟩ := Own.at Ver.len HA.out (i := i) (by rw [HML.out]; exact hlt)
              injection e1 with e1
              injection e1 with e1
              subst e1
              have q0 := hcc 0 (by omega)
              have q1 := hcc 1 (by omega)
              have q2 := hcc 2 (by omega)
              have q3 := hcc 3 (by omega)
              simp only [Ver.cells, List.getElem?_cons_zero, List.getElem?_cons_succ, Nat.add_zero] at q0 q1 q2 q3
              have hk0 : (0 : Int) ≤ (i : Int) := by omega
              have hk1 : (i : Int) < (n : Int) := by omega
              have HA1 := Lib.hid (show Own (wset wr ga (i * 4) v5.cells) H0 27 4 Ver.cells (.slice (some ⟨ga, 0, none⟩) n ca) (markF v5 (i + 1) (zs n)) from by
                have h := Own.put Ver.len HA.out (i := i) (by rw [HML.out]; exact hlt) v5
                rw [markF_set v5 (by rw [zs_length]; exact hlt)] at h
                exact h)
              have HTT := Lib.hid (show Turn (fun q => q = ga) wr (wset wr ga (i * 4) v5.cells) from Turn.wset (S := fun q => q = ga) (.inl rfl) v5.cells (i * 4) (Turn.refl _ _))
              have HS1 := Lib.hid (HS.out.turn HH.out HTT.out fun k hk => by have e : k = ga := hk; rw [e]; exact HAP.out.1)
              have HK1 := Lib.hid (HK.out.turn HTT.out fun k hk e => by have e1 : gk = k := Option.some.inj hk; have := HAP.out.2.2; have e2 : k = ga := e; omega)
              clear hcc hx1
              go_wp2_with fail
              exact ⟨⟨i + 1, by omega, rfl, HS1, HA1, HK1⟩, by show n - ((i : Int) + 1).toNat < n - (i : Int).toNat; omega⟩
            · obtain rfl : n = i := by omega
              have HAL := Lib.hid (show Own wr H0 27 4 Ver.cells (.slice (some ⟨ga, 0, none⟩) n ca) (List.replicate n v5) from by
                have h := HA.out
                have e := markF_all v5 (zs n)
                rw [zs_length] at e
                rw [e] at h
                exact h)
              clear HA HML
              go_wp2_with fail
              go_loopw [96] (fun ix wi => ∃ i : Nat, i ≤ m ∧ ix = .int .i64 i ∧ Hid (MRest w F p (stS n).1 (2 * n) (stS n).2 gb gl w3.heap.size w5.heap.size cb cl n m ks wi) ∧ Hid (Own wi H0 27 4 Ver.cells (.slice (some ⟨ga, 0, none⟩) n ca) (List.replicate n v5)) ∧ Hid (Own wi H0 9 1 strC (.slice (some ⟨gk, 0, none⟩) m ck) (markF sQ i ks))) (fun ix _ => m - (intOf ix).toNat)
              case atStart => exact ⟨0, by omega, rfl, HS, HAL, by rw [markF_zero]; exact HK⟩
              case round =>
                clear HS HAL HK
                obtain ⟨i, hi, rfl, HS, HA, HK⟩ := hrel
                have HML := Lib.hid (show (markF sQ i ks).length = m by rw [markF_length sQ (by rw [HKL.out]; exact hi), HKL.out])
                by_cases hlt : i < m
                · obtain ⟨g1, x1, e1, hx1, hcc, hff, hlt1⟩ := Own.at (f := strC) (size := 1) str_len HK.out (i := i) (by rw [HML.out]; exact hlt)
                  injection e1 with e1
                  injection e1 with e1
                  subst e1
                  have q0 := hcc 0 (by omega)
                  rw [Nat.mul_one, Nat.add_zero] at q0
                  simp only [strC, List.getElem?_cons_zero] at q0
                  have hk0 : (0 : Int) ≤ (i : Int) := by omega
                  have hk1 : (i : Int) < (m : Int) := by omega
                  have HWE := Lib.hid (show wset wr gk (i * 1) (strC sQ) = wr.setCell ⟨gk, i, none⟩ (.string ⟨#[63]⟩) by rw [Nat.mul_one]; rfl)
                  have HK1 := Lib.hid (show Own (wr.setCell ⟨gk, i, none⟩ (.string ⟨#[63]⟩)) H0 9 1 strC (.slice (some ⟨gk, 0, none⟩) m ck) (markF sQ (i + 1) ks) from by
                    have h := Own.put (f := strC) (size := 1) str_len HK.out (i := i) (by rw [HML.out]; exact hlt) sQ
                    rw [markF_set sQ (by rw [HKL.out]; exact hlt), HWE.out] at h
                    exact h)
                  have HTT := Lib.hid (show Turn (fun q => q = gk) wr (wr.setCell ⟨gk, i, none⟩ (.string ⟨#[63]⟩)) from Turn.setCell (S := fun q => q = gk) (p := ⟨gk, i, none⟩) (Turn.refl _ _) (.inl rfl) _)
                  have HS1 := Lib.hid (HS.out.turn HH.out HTT.out fun k hk => by have e : k = gk := hk; rw [e]; exact HAP.out.2.1)
                  have HA1 := Lib.hid (HA.out.turn HTT.out fun k hk e => by have e1 : ga = k := Option.some.inj hk; have := HAP.out.2.2; have e2 : k = gk := e; omega)
                  clear hcc hx1
                  go_wp2_with fail
                  exact ⟨⟨i + 1, by omega, rfl, HS1, HA1, HK1⟩, by show m - ((i : Int) + 1).toNat < m - (i : Int).toNat; omega⟩
                · obtain rfl : m = i := by omega
                  have HKQ := Lib.hid (show Own wr H0 9 1 strC (.slice (some ⟨gk, 0, none⟩) m ck) (List.replicate m sQ) from by
                    have h := HK.out
                    have e := markF_all sQ ks
                    rw [HKL.out] at e
                    rw [e] at h
                    exact h)
                  clear HK HML
                  obtain ⟨W, hW⟩ : ∃ z, z = wr := ⟨_, rfl⟩
                  subst hW
                  have HBE := Lib.hid ((Below.refl W.heap.size W).alloc (Nat.le_refl _) (.cells #[.int .i64 0, .int .i64 (-6), .bool false, .string ⟨#[]⟩, .int .i64 0, .int .i64 (-6), .bool false, .string ⟨#[]⟩] 27))
                  have HR2 := Lib.hid (show ReadAt (W.alloc (.cells #[.int .i64 0, .int .i64 (-6), .bool false, .string ⟨#[]⟩, .int .i64 0, .int .i64 (-6), .bool false, .string ⟨#[]⟩] 27)) Ver.cells (.slice (some ⟨W.heap.size, 0, none⟩) 2 2) [v6, v6] from Own.read (base := 0) (e := 27) (size := 4) (RowAt.own (n := 2) (RowAt.new' _ _ 27 ([v6, v6].flatMap Ver.cells) rfl) (Nat.zero_le _) rfl (by decide)))
                  have HOA := Lib.hid (HA.out.below HBE.out)
                  have HSL := Lib.hid (show (List.replicate n v5).length + [v6, v6].length ≤ maxLen ∧ ((List.replicate n v5).length + [v6, v6].length) * 40 ≤ 140737488355328 by simp; unfold maxLen; omega)
                  have HSM := Lib.hid (show (List.replicate m sQ).length + [sX, sX].length ≤ maxLen ∧ ((List.replicate m sQ).length + [sX, sX].length) * 16 ≤ 140737488355328 by have := HM.out; simp; unfold maxLen; omega)
                  have HGS := Lib.hid (show H0 ≤ W.heap.size by have := (Own.base HA.out ga rfl).2; have := HAP.out.1.1; omega)
                  go_wp2_with (first
                    | (at_builtin; refine cat_list Ver.cells 27 30 30 27 (.agg Ver.zero.cells.toArray) 4 40 Try.underlying30 Try.underlying30 (by kernel_rfl) rfl (by decide) Ver.len ver_one _ _ (by rfl) (by rfl) H0 (.slice (some ⟨ga, 0, none⟩) n ca) (List.replicate n v5) [v6, v6] (by rfl) HOA.out (.slice (some ⟨W.heap.size, 0, none⟩) 2 2) (by rfl) HR2.out HSL.out.1 HSL.out.2 (by have := HGS.out; simp; omega) ?_; intro v8 w8 o8 g8 l8; have O8 := Lib.hid o8; have HT8 := Lib.hid (show Turn (fun q => q = ga) W w8 from (Turn.of_below HBE.out _).grown g8 fun k hk => .inl (Option.some.inj hk).symm); clear o8 g8 l8; obtain ⟨A8, c8, hv8⟩ := own_forms O8.out; rw [show (List.replicate n v5 ++ [v6, v6]).length = n + 2 by simp] at hv8; subst hv8; have HS8 := Lib.hid (HS.out.turn HH.out HT8.out fun k hk => by have e : k = ga := hk; rw [e]; exact HAP.out.1); have HX8 := Lib.hid (HKQ.out.turn HT8.out fun k hk e => by have e1 : gk = k := Option.some.inj hk; have := HAP.out.2.2; have e2 : k = ga := e; omega); have HB8 := Lib.hid ((Below.refl w8.heap.size w8).alloc (Nat.le_refl _) (.cells #[.string ⟨#[33]⟩, .string ⟨#[33]⟩] 9)); have HR8 := Lib.hid (show ReadAt (w8.alloc (.cells #[.string ⟨#[33]⟩, .string ⟨#[33]⟩] 9)) strC (.slice (some ⟨w8.heap.size, 0, none⟩) 2 2) [sX, sX] from Own.read (base := 0) (e := 9) (size := 1) (RowAt.own (n := 2) (RowAt.new' _ _ 9 ([sX, sX].flatMap strC) rfl) (Nat.zero_le _) rfl (by decide))); have HOX := Lib.hid (HX8.out.below HB8.out); have HG8 := Lib.hid (show H0 ≤ w8.heap.size from Nat.le_trans HGS.out HT8.out.size))
                    | (at_builtin; refine cat_list strC 9 41 41 9 (.string ⟨#[]⟩) 1 16 Try.underlying41 Try.underlying41 (by kernel_rfl) rfl (by decide) str_len str_one _ _ (by rfl) (by rfl) H0 (.slice (some ⟨gk, 0, none⟩) m ck) (List.replicate m sQ) [sX, sX] (by rfl) HOX.out (.slice (some ⟨w8.heap.size, 0, none⟩) 2 2) (by rfl) HR8.out HSM.out.1 HSM.out.2 (by have := HG8.out; simp; omega) ?_; intro v9 w9 o9 g9 l9; have O9 := Lib.hid o9; have HT9 := Lib.hid (show Turn (fun q => q = gk) w8 w9 from (Turn.of_below HB8.out _).grown g9 fun k hk => .inl (Option.some.inj hk).symm); clear o9 g9 l9; obtain ⟨A9, c9, hv9⟩ := own_forms O9.out; rw [show (List.replicate m sQ ++ [sX, sX]).length = m + 2 by simp] at hv9; subst hv9))
                  have HS9 := Lib.hid (HS8.out.turn HH.out HT9.out fun k hk => by have e : k = gk := hk; rw [e]; exact HAP.out.2.1)
                  have HC9 := Lib.hid (show Own w9 H0 27 4 Ver.cells (.slice A8 (n + 2) c8) (List.replicate n v5 ++ [v6, v6]) from O8.out.turn HT9.out fun k hk e => by
                    have e2 : k = gk := e
                    exact own_apart O8.out HX8.out (by decide) k hk (by rw [e2]; rfl))
                  have HX9 := Lib.hid O9.out
                  clear HBE HR2 HOA HSL HSM HX8 HB8 HR8 HOX HS8 HA HKQ HS O8 HT8 HT9 O9 HG8 HGS
                  go_wp2_with fail
                  go_loopw [113] (fun ix wi => ∃ i : Nat, i ≤ n ∧ ix = .int .i64 i ∧ Hid (wi = w9)) (fun ix _ => n - (intOf ix).toNat)
                  case atStart => exact ⟨0, by omega, rfl, by first | exact Lib.hid rfl | exact Lib.hid trivial⟩
                  case round =>
                    obtain ⟨i, hi, rfl, HWW⟩ := hrel
                    obtain rfl : w9 = wr := HWW.out.symm
                    by_cases hlt : i < n
                    · obtain ⟨bb, offb, eb, hbb, hcb⟩ := (Own.rd' HS9.out.b Ver.len).at (zs_at hlt)
                      injection eb with eb
                      injection eb with eb1 eb2
                      subst eb1 eb2
                      obtain ⟨bx, offx, rfl, hbx, hcx⟩ := (Own.rd' HC9.out Ver.len).at (i := i) (x := v5) (by rw [List.getElem?_append_left (by simpa using hlt), List.getElem?_replicate, if_pos hlt])
                      have q0 := hcb 0 (by omega)
                      have z1 := hcx 1 (by omega)
                      simp only [Ver.cells, vv, v5, List.getElem?_cons_zero, List.getElem?_cons_succ, Nat.add_zero, Nat.zero_add] at q0 z1
                      have hi0 : (0 : Int) ≤ (i : Int) := by omega
                      have hi1 : (i : Int) < (n : Int) := by omega
                      have hi2 : (i : Int) < (n : Int) + 2 := by omega
                      have hi3 : i < n + 2 := by omega
                      have hii : ((i : Int) != (i : Int)) = false := by simp
                      clear hcb hcx
                      go_wp2_with fail
                      exact ⟨⟨i + 1, by omega, rfl, by first | exact Lib.hid rfl | exact Lib.hid trivial⟩, by show n - ((i : Int) + 1).toNat < n - (i : Int).toNat; omega⟩
                    · obtain rfl : n = i := by omega
                      have HLE := Lib.hid (stL_eq (by omega) n2)
                      have HLG := Lib.hid (stL_good n)
                      have HPF := Lib.hid (stP_facts (by omega) n2)
                      clear hlt hi
                      go_wp2_with fail
                      refine (install_play F p (2 * n) (stS n) zK (vv 100 0) _ HS9.out.st (by decide) HN3.out).mono ?_
                      rw [HLE.out.1]
                      rintro e w10 ⟨rfl, F', s10, f10, t10⟩
                      have HS10 := Lib.hid (show SAt F' w10 p (stL n).1 (2 * n + 1) (stL n).2 from s10)
                      have HF10 := Lib.hid f10
                      have HFA := Lib.hid (show ∀ i, F i → i < H0 from HH.out.2)
                      have HL10 := Lib.hid (HS9.out.l.turn t10 fun k hk e => by have e1 : gl = k := Option.some.inj hk; have h8 := HFA.out _ e; have := GL.out; have := HAP.out.2.1.1; omega)
                      have HC10 := Lib.hid (HC9.out.turn t10 fun k hk e => by have h8 := HFA.out _ e; have := (Own.base HC9.out k hk).1; omega)
                      have HX10 := Lib.hid (HX9.out.turn t10 fun k hk e => by have h8 := HFA.out _ e; have := (Own.base HX9.out k hk).1; omega)
                      have HLO10 := Lib.hid (HS9.out.low.trans (t10.below HS9.out.low.size fun k hk e => by have := HFB.out _ e; omega))
                      have HS9L := Lib.hid (show w.heap.size ≤ w9.heap.size from HS9.out.low.size)
                      have HLB := Lib.hid (show ∀ k, (Value.slice (some ⟨gl, 0, none⟩) m cl).ownBlock = some k → H0 ≤ k ∧ k < w9.heap.size from fun k hk => by
                        have e1 : gl = k := Option.some.inj hk
                        have h8 := (Own.base HS9.out.l k hk).2
                        have := GL.out
                        have := HAP.out.2.1.1
                        omega)
                      have HCB := Lib.hid (show ∀ k, (Value.slice A8 (n + 2) c8).ownBlock = some k → H0 ≤ k ∧ k < w9.heap.size from fun k hk => Own.base HC9.out k hk)
                      have HXB := Lib.hid (show ∀ k, (Value.slice A9 (m + 2) c9).ownBlock = some k → H0 ≤ k ∧ k < w9.heap.size from fun k hk => Own.base HX9.out k hk)
                      clear s10 f10 t10 HS9 HC9 HX9
                      have HGK := Lib.hid (show ∀ i, F' i → H0 ≤ i → w9.heap.size ≤ i from fun i hi h0 => by
                        rcases HF10.out i hi with h8 | h8
                        · have := HFA.out i h8; omega
                        · exact h8)
                      have HFL := Lib.hid (show ∀ i, F' i → w.heap.size ≤ i from fun i hi => by
                        rcases HF10.out i hi with h8 | h8
                        · exact HFB.out i h8
                        · have := HS9L.out; omega)
                      go_wp2_with fail
                      refine (prune_any F' p (stL n).1 (2 * n + 1) 200 (stL n).2 w10 HS10.out (by have := HN3.out; omega) (fun k => (HLG.out.inc k).rising) HLG.out.total).mono ?_
                      rintro e w11 ⟨G, rfl, hG, hT, ⟨F'', s11, f11⟩, t11⟩
                      have HS11 := Lib.hid s11
                      have HF11 := Lib.hid f11
                      have HL11 := Lib.hid (HL10.out.turn t11 fun k hk e => by have h8 := HGK.out _ e; have h9 := HLB.out k hk; omega)
                      have HC11 := Lib.hid (HC10.out.turn t11 fun k hk e => by have h8 := HGK.out _ e; have h9 := HCB.out k hk; omega)
                      have HX11 := Lib.hid (HX10.out.turn t11 fun k hk e => by have h8 := HGK.out _ e; have h9 := HXB.out k hk; omega)
                      have HLO11 := Lib.hid (HLO10.out.trans (t11.below HLO10.out.size fun k hk e => by have := HFL.out _ e; omega))
                      clear s11 f11 t11 hT hG HS10 HL10 HC10 HX10 HLO10
                      have HN4 := Lib.hid (show 2 * n + 1 < 3000000000000 by have := HN3.out; omega)
                      go_wp2_with fail
                      refine (chain_any F'' p _ _ _ zK w11 HS11.out (by decide) HN4.out).mono ?_
                      rw [HPF.out.1]
                      rintro e w12 ⟨v12, rfl, o12, b12⟩
                      obtain ⟨gd, cd, rfl, hg1, hg2⟩ := own_some o12 (by simp)
                      have HD12 := Lib.hid (Own.rd' o12 Ver.len)
                      have HS12 := Lib.hid (HS11.out.below b12)
                      have HL12 := Lib.hid (Own.rd' (HL11.out.below b12) str_len)
                      have HC12 := Lib.hid (Own.rd' (HC11.out.below b12) Ver.len)
                      have HX12 := Lib.hid (Own.rd' (HX11.out.below b12) str_len)
                      have HLO12 := Lib.hid (HLO11.out.trans (b12.mono HLO11.out.size))
                      clear o12 b12 hg1 hg2 HS11 HL11 HC11 HX11 HLO11
                      go_wp2_with fail
                      go_loopw [141] (fun ix wi => ∃ i : Nat, i ≤ m ∧ ix = .int .i64 i ∧ Hid (wi = w12)) (fun ix _ => m - (intOf ix).toNat)
                      case atStart => exact ⟨0, by omega, rfl, by first | exact Lib.hid rfl | exact Lib.hid trivial⟩
                      case round =>
                        obtain ⟨i, hi, rfl, HWW2⟩ := hrel
                        obtain rfl : w12 = wr := HWW2.out.symm
                        by_cases hlt : i < m
                        · obtain ⟨k, hk⟩ : ∃ k, ks[i]? = some k := ⟨_, List.getElem?_eq_getElem (by rw [HKL.out]; exact hlt)⟩
                          have HKN := Lib.hid (HKC.out.2 k (List.mem_of_getElem? hk))
                          obtain ⟨bb, offb, eb, hbb, hcb⟩ := HL12.out.at hk
                          injection eb with eb
                          injection eb with eb1 eb2
                          subst eb1 eb2
                          obtain ⟨bx, offx, rfl, hbx, hcx⟩ := HX12.out.at (i := i) (x := sQ) (by rw [List.getElem?_append_left (by simpa using hlt), List.getElem?_replicate, if_pos hlt])
                          have q0 := hcb 0 (by omega)
                          have z0 := hcx 0 (by omega)
                          rw [Nat.mul_one, Nat.add_zero] at q0 z0
                          simp only [strC, sQ, List.getElem?_cons_zero, Nat.zero_add] at q0 z0
                          have hi0 : (0 : Int) ≤ (i : Int) := by omega
                          have hi1 : (i : Int) < (m : Int) := by omega
                          have hi2 : (i : Int) < (m : Int) + 2 := by omega
                          have hi3 : i < m + 2 := by omega
                          have hkn : ¬ k.toList = [63] := fun e => HKN.out (bytes_eq (by rw [e, ByteArray.toList_eq]))
                          have hkb : (k.toList == [63]) = false := by simpa using hkn
                          clear hcb hcx hk
                          go_wp2_with fail
                          exact ⟨⟨i + 1, by omega, rfl, by first | exact Lib.hid rfl | exact Lib.hid trivial⟩, by show m - ((i : Int) + 1).toNat < m - (i : Int).toNat; omega⟩
                        · obtain rfl : m = i := by omega
                          obtain ⟨bd, offd, ed, hbd, hcd⟩ := HD12.out.at (i := 0) (x := vv 100 0) rfl
                          injection ed with ed
                          injection ed with ed1 ed2
                          subst ed1 ed2
                          obtain ⟨bc, offc, rfl, hbc, hcc⟩ := HC12.out.at (i := n) (x := v6) (by rw [List.getElem?_append_right (by simp)]; simp)
                          have q0 := hcd 0 (by omega)
                          have z1 := hcc 1 (by omega)
                          simp only [Ver.cells, vv, v6, List.getElem?_cons_zero, List.getElem?_cons_succ, Nat.add_zero, Nat.zero_mul] at q0 z1
                          have hn0 : (0 : Int) ≤ (n : Int) := by omega
                          have hn1 : (n : Int) < (n : Int) + 2 := by omega
                          have hn2 : n < n + 2 := by omega
                          have hmm : ((m : Int) == (n : Int) + 1) = true := by
                            have := HM.out
                            rw [beq_iff_eq]
                            omega
                          clear hcd hcc hlt hi
                          go_wp2_with fail
                          refine (keys_any F'' p _ _ _ w12 HS12.out HN4.out).mono ?_
                          rintro e w13 ⟨v13, ks13, rfl, hk13, o13, b13, -, -⟩
                          have hl13 := (keys_count n1 (by omega) HPF.out.2 hk13).1
                          obtain ⟨A13, c13, rfl⟩ := own_forms o13
                          rw [hl13, ← HM.out]
                          have HB13 := Lib.hid (HLO12.out.trans (b13.mono HLO12.out.size))
                          clear hl13 hk13 o13 b13
                          go_wp2_with fail
                          go_ret
                          exact ⟨rfl, HB13.out⟩
end Go.Proofs.Ytkbnfnfjmofcmaa
