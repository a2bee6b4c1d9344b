/- ChainPrunes: the plain law and the walk. -/
import Derived.Test.YtkbnfnfjmofcmaaTw
import Derived.Test.YtkbnfnfjmofcmaaSe
import Derived.Test.YtkbnfnfjmofcmaaKy
namespace Go.Proofs.Ytkbnfnfjmofcmaa
set_option linter.unusedVariables false
set_option linter.unusedSimpArgs false
open Go.RowKit
attribute [local go_sem high] eqVer

theorem cut_cons (x : Ver) (l : List Ver) (t : Int) : cut (x :: l) t = if x.commit ≤ t then cut l t + 1 else 0 := by
  unfold cut
  rw [List.takeWhile_cons]
  by_cases h : x.commit ≤ t
  · rw [if_pos (by simpa using h), if_pos h]; rfl
  · rw [if_neg (by simpa using h), if_neg h]; rfl
theorem cut_drop {l : List Ver} {t : Int} {d : Nat} (h : d ≤ cut l t) : cut (l.drop d) t = cut l t - d := by
  induction l generalizing d with
  | nil => simp [cut]
  | cons x l ih =>
    cases d with
    | zero => rfl
    | succ d =>
      rw [cut_cons] at h ⊢
      split at h
      · rename_i hx
        rw [if_pos hx, List.drop_succ_cons, ih (by omega)]
        omega
      · omega
theorem cut_mono {l : List Ver} {f t : Int} (h : f ≤ t) : cut l f ≤ cut l t := by
  induction l with
  | nil => exact Nat.le_refl _
  | cons x l ih =>
    rw [cut_cons, cut_cons]
    by_cases hx : x.commit ≤ f
    · rw [if_pos hx, if_pos (by omega)]; omega
    · rw [if_neg hx]; exact Nat.zero_le _
theorem prn_idem (f : Int) (l : List Ver) : prn f (prn f l) = prn f l := by
  unfold prn
  by_cases h : 1 < cut l f
  · rw [if_pos h, cut_drop (by omega), if_neg (by omega)]
  · rw [if_neg h, if_neg h]
theorem at_prn {l : List Ver} {f t : Int} (h : f ≤ t) : atV (prn f l) t = atV l t := by
  have hm := cut_mono (l := l) h
  unfold prn
  split
  · unfold atV
    rw [cut_drop (by omega), if_pos (by omega), if_pos (by omega), List.getElem?_drop]
    congr 1
    omega
  · rfl
theorem after_prn {l : List Ver} {f t : Int} (h : f ≤ t) : afterV (prn f l) t = afterV l t := by
  have hm := cut_mono (l := l) h
  unfold prn
  split
  · unfold afterV
    rw [cut_drop (by omega), List.getElem?_drop]
    congr 1
    omega
  · rfl
theorem last_prn (l : List Ver) (f : Int) : (prn f l).getLast? = l.getLast? := by
  have := cut_le l f
  unfold prn
  split
  · rw [List.getLast?_drop, if_neg (by omega)]
  · rfl
theorem cut_prn (l : List Ver) (f : Int) : cut (prn f l) f ≤ 1 := by
  unfold prn
  split
  · rw [cut_drop (by omega)]
    omega
  · omega
theorem Good.again {s : Store} (h : Good s) {t : Int} {G G2 : Nat} (h1 : Good (s.1 - G, prnS t s.2)) (h2 : Good (s.1 - G - G2, prnS t (prnS t s.2))) (hG : G2 ≤ s.1 - G) : G2 = 0 := by
  have e : prnS t (prnS t s.2) = prnS t s.2 := funext fun k => prn_idem _ _
  obtain ⟨ks, hn, hm, hs⟩ := h1.total
  have a := h1.total.unique hn hm
  have b := h2.total
  rw [e] at b
  have b := b.unique hn hm
  simp only at a b
  omega
/-- Alike in what may be installed. -/
def Tails (s1 s2 : Store) : Prop := ∀ k, (s1.2 k).getLast? = (s2.2 k).getLast?
theorem Tails.refuse {s1 s2 : Store} (h : Tails s1 s2) (k : ByteArray) (v : Ver) : refuse k v (s1.2 k) = refuse k v (s2.2 k) := by
  unfold Go.Proofs.Ytkbnfnfjmofcmaa.refuse staleV
  rw [h k]
theorem Tails.play {s1 s2 : Store} (h : Tails s1 s2) (k : ByteArray) (v : Ver) : Tails (play1 s1 k v) (play1 s2 k v) := by
  intro k'
  unfold play1
  rw [h.refuse]
  split
  · show (upd _ _ _ k').getLast? = (upd _ _ _ k').getLast?
    unfold upd
    split
    · simp
    · exact h k'
  · exact h k'
theorem two_of {B : Nat} {w w' : World} {p1 p2 N1 N2 : Nat} {s1 s2 : Store} (h1 : SAt' B w p1 N1 s1) (h2 : SAt' w.heap.size w' p2 N2 s2) (hb : Below w.heap.size w w') (hB : B ≤ w.heap.size) : Two B w' p1 p2 N1 N2 s1 s2 := by
  obtain ⟨F1, a1, b1⟩ := h1
  obtain ⟨F2, a2, b2⟩ := h2
  exact ⟨F1, F2, a1.below hb, a2, fun i hi hh => by have := a1.flt i hi; have := b2 i hh; omega, b1, fun i hi => Nat.le_trans hB (b2 i hi)⟩
theorem at_two (B p1 p2 N N2 : Nat) (s1 s2 : Store) (k : ByteArray) (t : Int) (w : World) (h : Two B w p1 p2 N N2 s1 s2) (hg : Good s1) (hk : k.size ≤ maxLen) (hN : N < 3000000000000) :
    Calls Try.prog 11 #[.pointer (some ⟨p1, 0, none⟩), .string k, .int .i64 t] w fun e w' => e = .returned (seen (atV (s1.2 k) t)) ∧ Below w.heap.size w w' := by
  obtain ⟨F1, F2, h1, h2, h3, h4, h5⟩ := h
  exact at_any F1 p1 s1.1 N s1.2 k t w h1 hk hN (hg.inc k).rising
theorem after_two (B p1 p2 N N2 : Nat) (s1 s2 : Store) (k : ByteArray) (t : Int) (w : World) (h : Two B w p1 p2 N N2 s1 s2) (hg : Good s1) (hk : k.size ≤ maxLen) (hN : N < 3000000000000) :
    Calls Try.prog 12 #[.pointer (some ⟨p1, 0, none⟩), .string k, .int .i64 t] w fun e w' => e = .returned (seen (afterV (s1.2 k) t)) ∧ Below w.heap.size w w' := by
  obtain ⟨F1, F2, h1, h2, h3, h4, h5⟩ := h
  exact after_any F1 p1 s1.1 N s1.2 k t w h1 hk hN (hg.inc k).rising
theorem keys_two (B p1 p2 N N2 : Nat) (s1 s2 : Store) (w : World) (h : Two B w p1 p2 N N2 s1 s2) (hN : N < 3000000000000) :
    Calls Try.prog 18 #[.pointer (some ⟨p1, 0, none⟩)] w fun e w' => ∃ v ks, e = .returned v ∧ KeysOf s1.2 ks ∧ Own w' w.heap.size 9 1 strC v ks ∧ Below w.heap.size w w' ∧ (∀ k ∈ ks, k.size ≤ maxLen) ∧ ks.length ≤ N := by
  obtain ⟨F1, F2, h1, h2, h3, h4, h5⟩ := h
  exact keys_any F1 p1 s1.1 N s1.2 w h1 hN
/-- Two stores, and a block that neither holds. -/
def TwoG (g B : Nat) (w : World) (p1 p2 N1 N2 : Nat) (s1 s2 : Store) : Prop := ∃ F1 F2, SAt F1 w p1 s1.1 N1 s1.2 ∧ SAt F2 w p2 s2.1 N2 s2.2 ∧ (∀ i, F1 i → ¬ F2 i) ∧ (∀ i, F1 i → B ≤ i) ∧ (∀ i, F2 i → B ≤ i) ∧ ¬ F1 g ∧ ¬ F2 g ∧ g < w.heap.size
theorem TwoG.two {g B : Nat} {w : World} {p1 p2 N1 N2 : Nat} {s1 s2 : Store} (h : TwoG g B w p1 p2 N1 N2 s1 s2) : Two B w p1 p2 N1 N2 s1 s2 := by
  obtain ⟨F1, F2, h1, h2, h3, h4, h5, -⟩ := h
  exact ⟨F1, F2, h1, h2, h3, h4, h5⟩
theorem TwoG.swap {g B : Nat} {w : World} {p1 p2 N1 N2 : Nat} {s1 s2 : Store} (h : TwoG g B w p1 p2 N1 N2 s1 s2) : TwoG g B w p2 p1 N2 N1 s2 s1 := by
  obtain ⟨F1, F2, h1, h2, h3, h4, h5, h6, h7, h8⟩ := h
  exact ⟨F2, F1, h2, h1, fun i a b => h3 i b a, h5, h4, h7, h6, h8⟩
theorem Two.fresh {B : Nat} {w w' : World} {p1 p2 N1 N2 : Nat} {s1 s2 : Store} (h : Two B w p1 p2 N1 N2 s1 s2) (hb : Below w.heap.size w w') (hl : w.heap.size < w'.heap.size) : TwoG w.heap.size B w' p1 p2 N1 N2 s1 s2 := by
  obtain ⟨F1, F2, h1, h2, h3, h4, h5⟩ := h
  exact ⟨F1, F2, h1.below hb, h2.below hb, h3, h4, h5, fun hh => absurd (h1.flt _ hh) (by omega), fun hh => absurd (h2.flt _ hh) (by omega), hl⟩
theorem install_twoG (g B p1 p2 N N2 : Nat) (s1 s2 : Store) (k : ByteArray) (v : Ver) (w : World) (T : TypeId) (cs : List Value) (h : TwoG g B w p1 p2 N N2 s1 s2) (hr : RowAt w g T cs) (hB : B ≤ w.heap.size) (hk : k.size ≤ maxLen) (hN : N < 3000000000000) :
    Calls Try.prog 15 #[.pointer (some ⟨p1, 0, none⟩), .string k, .agg #[.int .i64 v.commit, .int .i64 v.writer, .bool v.found, .string v.value]] w fun e w' => e = .returned (.int .i64 (refuse k v (s1.2 k))) ∧ TwoG g B w' p1 p2 (N + 1) N2 (play1 s1 k v) s2 ∧ Below B w w' ∧ RowAt w' g T cs := by
  obtain ⟨F1, F2, h1, h2, h3, h4, h5, h6, h7, h8⟩ := h
  refine (install_play F1 p1 N s1 k v _ h1 hk hN).mono fun e w' ⟨he, F', a1, a2, a3⟩ => ?_
  obtain ⟨⟨F1', F2', q1, q2, q3, q4, q5⟩, q6⟩ := Two.step h2 h3 h4 h5 hB a1 a2 a3
  refine ⟨he, ⟨F', F2, a1, (h2.turn a3 fun i hi hh => h3 i hh hi), fun i hi hh => ?_, fun i hi => ?_, h5, fun hh => ?_, h7, Nat.lt_of_lt_of_le h8 a3.size⟩, q6, hr.turn a3 h6⟩
  · rcases a2 i hi with h | h
    · exact h3 i h hh
    · have := h2.flt i hh
      omega
  · rcases a2 i hi with h | h
    · exact h4 i h
    · omega
  · rcases a2 g hh with h | h
    · exact h6 h
    · omega
set_option maxRecDepth 100000 in
set_option maxHeartbeats 6400000 in
theorem prunes_walk (A A2 A3 : Option Addr) (n n2 n3 cap cap2 cap3 : Nat) (xs ys : List Op) (ts : List Int) (f : Int) (w : World) (hn : xs.length = n) (hn2 : ts.length = n2) (hn3 : ys.length = n3) (hm : n + n3 < 2900000000000) (hm2 : n2 < 2900000000000)
    (hx : ∀ o ∈ xs, o.Fits) (hy : ∀ o ∈ ys, o.Fits) (h : SliceRd w A 7 Op.cells xs) (h2 : SliceRd w A2 1 (fun t => [.int .i64 t]) ts) (h3 : SliceRd w A3 7 Op.cells ys) :
    Calls Try.prog 7 #[.slice A n cap, .int .i64 f, .slice A2 n2 cap2, .slice A3 n3 cap3] w fun e w' => e = .returned (.bool true) ∧ Below w.heap.size w w' := by
  have HX := Lib.hid hx
  have HY := Lib.hid hy
  have HN := Lib.hid hn
  have HN2 := Lib.hid hn2
  have HN3 := Lib.hid hn3
  have HR := Lib.hid h
  have HR2 := Lib.hid h2
  have HR3 := Lib.hid h3
  clear hx hy hn hn2 hn3 h h2 h3
  go_enter Try.func7, Try.ntmps7
  go_wp2_with fail
  refine (anchor_any w).mono ?_
  rintro e w1 ⟨rfl, b1⟩
  have B1 := Lib.hid b1
  clear b1
  go_wp2_with fail
  refine (fill_any A n cap xs _ HN.out (by omega) HX.out (HR.out.below B1.out)).mono ?_
  rintro e w2 ⟨p1, rfl, s2, b2⟩
  have HB2 := Lib.hid (B1.out.trans (b2.mono B1.out.size))
  have S2 := Lib.hid s2
  go_wp2_with fail
  refine (fill_any A n cap xs _ HN.out (by omega) HX.out (HR.out.below HB2.out)).mono ?_
  rintro e w3 ⟨p2, rfl, s3, b3⟩
  have T3 := Lib.hid (two_of S2.out s3 b3 b2.size)
  have B3 := Lib.hid (b2.trans (b3.mono b2.size))
  have HG := Lib.hid (fillF_good xs)
  obtain ⟨st, hst⟩ : ∃ st, st = fillF xs := ⟨_, rfl⟩
  rw [← hst] at T3 HG
  have HI : Hid (w1.heap.size = w1.heap.size) := Lib.hid rfl
  clear s2 b2 HB2 S2 s3 b3 hst HX HN HR
  go_wp2_with fail
  refine (count_two w1.heap.size p1 p2 n n st st _ T3.out).mono ?_
  rintro e w4 ⟨rfl, rfl⟩
  go_wp2_with fail
  refine (prune_two w1.heap.size p1 p2 n n st st f _ T3.out B3.out.size (by omega) HG.out).mono ?_
  rintro e w4 ⟨G, rfl, hG, g4, t4, b4⟩
  have T4 := Lib.hid t4
  have B4 := Lib.hid (B3.out.trans b4)
  have G4 := Lib.hid g4
  clear t4 b4 g4 T3 B3
  go_wp2_with fail
  obtain ⟨c0, hc0⟩ : ∃ c, c = st.1 := ⟨_, rfl⟩
  obtain ⟨c, hc⟩ : ∃ c, c = c0 - G := ⟨_, rfl⟩
  have hcb : c0 ≤ n := by
    rw [hc0]
    obtain ⟨F1, F2, h1, h2, _⟩ := T4.out
    obtain ⟨_, _, _, _, _, _, _, _, _, _, q, _⟩ := h2
    exact q
  rw [← hc0] at hG G4 T4 ⊢
  rw [← hc] at G4 T4
  have hcw : IntKind.i64.wrap ((c0 : Int) - (G : Int)) = (c : Int) := by rw [wrap_in (by omega) (by omega)]; omega
  have hcq : ((c : Int) == (c : Int)) = true := by simp
  have hg0 : decide ((G : Int) < 0) = false := decide_eq_false (by omega)
  have HC0 := Lib.hid hc0
  have HC := Lib.hid hc
  clear hc hc0
  refine (count_two w1.heap.size p1 p2 n n _ st _ T4.out).mono ?_
  rintro e w5 ⟨rfl, rfl⟩
  go_wp2_with fail
  refine (prune_two w1.heap.size p1 p2 n n _ st f _ T4.out B4.out.size (by omega) G4.out).mono ?_
  rintro e w6 ⟨G2, rfl, hG2, g6, t6, b6⟩
  have hz := HG.out.again (G := G) (G2 := G2) (t := f) (by have := G4.out; rw [HC.out, HC0.out] at this; exact this) (by have := g6; rw [HC.out, HC0.out] at this; exact this) (by have := hG2; simp only at this; rw [HC.out, HC0.out] at this; exact this)
  subst hz
  have e6 : prnS f (prnS f st.2) = prnS f st.2 := funext fun k => prn_idem _ _
  simp only [e6, Nat.sub_zero] at t6
  have T6 := Lib.hid t6
  have B6 := Lib.hid (B4.out.trans b6)
  rw [show ((0 : Nat) : Int) = 0 from rfl]
  clear t6 b6 g6 hG2 e6 T4 B4
  go_wp2_with fail
  refine (keys_two w1.heap.size p1 p2 n n _ st _ T6.out (by omega)).mono ?_
  rintro e w7 ⟨v1, ks1, rfl, k1, o1, b7, -, hk1⟩
  obtain ⟨A4, cl4, rfl⟩ := own_form o1
  have T7 := Lib.hid (T6.out.below b7)
  have B7 := Lib.hid (B6.out.trans (b7.mono B6.out.size))
  obtain ⟨nk, hnk⟩ : ∃ m, m = ks1.length := ⟨_, rfl⟩
  rw [← hnk] at hk1 ⊢
  have HNK := Lib.hid hnk
  have K1 := Lib.hid k1
  clear T6 B6 b7 o1 hnk k1
  have hq : ((nk : Int) == (nk : Int)) = true := by simp
  have hsame : ∀ k, st.2 k ≠ [] ↔ prnS f st.2 k ≠ [] := fun k => ⟨prn_ne, fun h e => h (by unfold prnS; rw [e]; rfl)⟩
  have HS := Lib.hid hsame
  clear hsame
  go_wp2_with fail
  refine (keys_two w1.heap.size p2 p1 n n st _ _ T7.out.swap (by omega)).mono ?_
  rintro e w8 ⟨v2, ks2, rfl, k2, o2, b8, -, -⟩
  obtain ⟨A5, cl5, rfl⟩ := own_form o2
  obtain rfl := k2.unique K1.out HS.out
  rw [← HNK.out]
  have T8 := Lib.hid (T7.out.below b8)
  have B8 := Lib.hid (B7.out.trans (b8.mono B7.out.size))
  clear T7 B7 b8 o2 k2
  go_wp2_with fail
  refine (keys_two w1.heap.size p2 p1 n n st _ _ T8.out.swap (by omega)).mono ?_
  rintro e w9 ⟨v3, ks3, rfl, k3, o3, b9, hk3, -⟩
  obtain ⟨A6, cl6, rfl⟩ := own_form o3
  obtain rfl := k3.unique K1.out HS.out
  rw [← HNK.out] at o3 ⊢
  have T9 := Lib.hid (T8.out.below b9)
  have B9 := Lib.hid (B8.out.trans (b9.mono B8.out.size))
  have O9 := Lib.hid o3
  have HK := Lib.hid hk3
  have K9 := Lib.hid k3
  clear T8 B8 b9 o3 k3 hk3 K1
  go_wp2_with fail
  go_loopw [73] (fun i wr => ∃ j : Nat, i = .int .i64 j ∧ j ≤ nk ∧ Hid (Below w9.heap.size w9 wr)) (fun i _ => nk - (intOf i).toNat)
  case atStart => exact ⟨0, rfl, by omega, Below.refl _ _⟩
  case round =>
    obtain ⟨j, rfl, hj, HB⟩ := hrel
    by_cases hlt : j < nk
    · obtain ⟨g, k, rfl, hkj, hmem, c0⟩ := own_str (O9.out.below HB.out) (j := j) (by rw [← HNK.out]; exact hlt)
      have hks := HK.out k hmem
      have hne := (K9.out.mem k).1 hmem
      have HNE := Lib.hid hne
      have TR := Lib.hid (T9.out.below HB.out)
      have BR := Lib.hid (B9.out.trans (HB.out.mono B9.out.size))
      clear hkj hmem hne
      go_wp2_with fail
      go_loopw [79] (fun i wr1 => ∃ m : Nat, i = .int .i64 m ∧ m ≤ n2 ∧ Hid (Below wr.heap.size wr wr1)) (fun i _ => n2 - (intOf i).toNat)
      case atStart => exact ⟨0, rfl, by omega, Below.refl _ _⟩
      case round =>
        rename_i wr1
        obtain ⟨m, rfl, hm2', HB5⟩ := hrel
        by_cases hlt2 : m < n2
        · obtain ⟨t, ht⟩ : ∃ t, ts[m]? = some t := ⟨_, List.getElem?_eq_getElem (by rw [HN2.out]; exact hlt2)⟩
          obtain ⟨bt, ot, rfl, hbt, hct⟩ := ((HR2.out.below B1.out).below (BR.out.trans (HB5.out.mono BR.out.size))).at ht
          have t0 := hct 0 (by omega)
          simp only [List.getElem?_cons_zero, Nat.mul_one, Nat.add_zero] at t0
          clear hct hbt ht
          by_cases hlow : t < f
          · have hd : decide (t < f) = true := decide_eq_true hlow
            obtain ⟨ao, hao⟩ : ∃ o, o = atV (st.2 k) f := ⟨_, rfl⟩
            obtain ⟨bo, hbo⟩ : ∃ o, o = afterV (st.2 k) f := ⟨_, rfl⟩
            have q1 : atV ((c, prnS f st.2).2 k) f = ao := by rw [hao]; exact at_prn (Int.le_refl _)
            have q2 : atV (st.2 k) f = ao := hao.symm
            have q3 : afterV ((c, prnS f st.2).2 k) f = bo := by rw [hbo]; exact after_prn (Int.le_refl _)
            have q4 : afterV (st.2 k) f = bo := hbo.symm
            obtain ⟨ob, hob⟩ : ∃ o, o = ao.isSome := ⟨_, rfl⟩
            obtain ⟨⟨a0, a1, a2, a3⟩, hav⟩ : ∃ o, o = ao.getD Ver.zero := ⟨_, rfl⟩
            have ev1 : seen ao = .tuple #[.agg #[.int .i64 a0, .int .i64 a1, .bool a2, .string a3], .bool ob] := by unfold seen; rw [← hav, ← hob]; rfl
            obtain ⟨hb, hhb⟩ : ∃ o, o = bo.isSome := ⟨_, rfl⟩
            obtain ⟨⟨v0, v1, v2, v3⟩, hbv⟩ : ∃ o, o = bo.getD Ver.zero := ⟨_, rfl⟩
            have ev2 : seen bo = .tuple #[.agg #[.int .i64 v0, .int .i64 v1, .bool v2, .string v3], .bool hb] := by unfold seen; rw [← hbv, ← hhb]; rfl
            have Hq1 := Lib.hid q1
            have Hq2 := Lib.hid q2
            have Hq3 := Lib.hid q3
            have Hq4 := Lib.hid q4
            have Hev1 := Lib.hid ev1
            have Hev2 := Lib.hid ev2
            clear hao hbo q1 q2 q3 q4 hob hav ev1 hhb hbv ev2
            have TA := Lib.hid (TR.out.below HB5.out)
            have BA := Lib.hid (HB5.out)
            go_wp2_with fail
            refine (at_two w1.heap.size p1 p2 n n (c, prnS f st.2) st k f _ TA.out G4.out hks (by omega)).mono ?_
            rintro e w10 ⟨he, b10⟩
            rw [Hq1.out, Hev1.out] at he
            subst he
            have TA := Lib.hid (TA.out.below b10)
            have BA := Lib.hid (BA.out.trans (b10.mono BA.out.size))
            clear b10
            go_wp2_with fail
            have baB := (Below.refl w10.heap.size w10).alloc (Nat.le_refl _) (.cells #[.int .i64 a0, .int .i64 a1, .bool a2, .string a3] 27)
            have raB := RowAt.new w10 27 (Ver.cells ⟨a0, a1, a2, a3⟩)
            refine (at_two w1.heap.size p2 p1 n n st (c, prnS f st.2) k f _ (TA.out.swap.below baB) HG.out hks (by omega)).mono ?_
            rintro e w11 ⟨he, b11⟩
            rw [Hq2.out, Hev1.out] at he
            subst he
            have RA := Lib.hid (raB.below b11)
            have TA := Lib.hid ((TA.out.below baB).below b11)
            have BA := Lib.hid (BA.out.trans ((baB.trans (b11.mono baB.size)).mono BA.out.size))
            clear baB raB b11
            go_wp2_with fail
            have baC := (Below.refl w11.heap.size w11).alloc (Nat.le_refl _) (.cells #[.int .i64 a0, .int .i64 a1, .bool a2, .string a3] 27)
            have raC := RowAt.new w11 27 (Ver.cells ⟨a0, a1, a2, a3⟩)
            refine (after_two w1.heap.size p1 p2 n n (c, prnS f st.2) st k f _ (TA.out.below baC) G4.out hks (by omega)).mono ?_
            rintro e w12 ⟨he, b12⟩
            rw [Hq3.out, Hev2.out] at he
            subst he
            have RA := Lib.hid ((RA.out.below baC).below b12)
            have RB := Lib.hid (raC.below b12)
            have TA := Lib.hid ((TA.out.below baC).below b12)
            have BA := Lib.hid (BA.out.trans ((baC.trans (b12.mono baC.size)).mono BA.out.size))
            clear baC raC b12
            go_wp2_with fail
            have baD := (Below.refl w12.heap.size w12).alloc (Nat.le_refl _) (.cells #[.int .i64 v0, .int .i64 v1, .bool v2, .string v3] 27)
            have raD := RowAt.new w12 27 (Ver.cells ⟨v0, v1, v2, v3⟩)
            refine (after_two w1.heap.size p2 p1 n n st (c, prnS f st.2) k f _ (TA.out.swap.below baD) HG.out hks (by omega)).mono ?_
            rintro e w13 ⟨he, b13⟩
            rw [Hq4.out, Hev2.out] at he
            subst he
            have RA := Lib.hid ((RA.out.below baD).below b13)
            have RB := Lib.hid ((RB.out.below baD).below b13)
            have RC := Lib.hid (raD.below b13)
            have TA := Lib.hid ((TA.out.below baD).below b13)
            have BA := Lib.hid (BA.out.trans ((baD.trans (b13.mono baD.size)).mono BA.out.size))
            clear baD raD b13
            have baZ := (Below.refl w13.heap.size w13).alloc (Nat.le_refl _) (.cells #[.int .i64 v0, .int .i64 v1, .bool v2, .string v3] 27)
            have cRA := (RA.out.below baZ).cell
            have cRA0 := cRA 0
            have cRA1 := cRA 1
            have cRA2 := cRA 2
            have cRA3 := cRA 3
            have cRB := (RB.out.below baZ).cell
            have cRB0 := cRB 0
            have cRB1 := cRB 1
            have cRB2 := cRB 2
            have cRB3 := cRB 3
            have cRC := (RC.out.below baZ).cell
            have cRC0 := cRC 0
            have cRC1 := cRC 1
            have cRC2 := cRC 2
            have cRC3 := cRC 3
            simp only [Ver.cells, List.getElem?_cons_zero, List.getElem?_cons_succ] at cRA0 cRA1 cRA2 cRA3 cRB0 cRB1 cRB2 cRB3 cRC0 cRC1 cRC2 cRC3
            have BZ := Lib.hid (BA.out.trans (baZ.mono BA.out.size))
            have hsA : Ver.eqb ⟨a0, a1, a2, a3⟩ ⟨a0, a1, a2, a3⟩ = true := (Ver.eqb_iff _ _).2 rfl
            have hsB : Ver.eqb ⟨v0, v1, v2, v3⟩ ⟨v0, v1, v2, v3⟩ = true := (Ver.eqb_iff _ _).2 rfl
            clear baZ cRA cRB cRC
            go_wp2_with fail
            exact ⟨⟨m + 1, rfl, by omega, BZ⟩, by show n2 - ((m : Int) + 1).toNat < n2 - (m : Int).toNat; omega⟩
          · have hd : decide (t < f) = false := decide_eq_false hlow
            have hft : f ≤ t := by omega
            obtain ⟨ao, hao⟩ : ∃ o, o = atV (st.2 k) t := ⟨_, rfl⟩
            obtain ⟨bo, hbo⟩ : ∃ o, o = afterV (st.2 k) t := ⟨_, rfl⟩
            have q1 : atV ((c, prnS f st.2).2 k) t = ao := by rw [hao]; exact at_prn (hft)
            have q2 : atV (st.2 k) t = ao := hao.symm
            have q3 : afterV ((c, prnS f st.2).2 k) t = bo := by rw [hbo]; exact after_prn (hft)
            have q4 : afterV (st.2 k) t = bo := hbo.symm
            obtain ⟨ob, hob⟩ : ∃ o, o = ao.isSome := ⟨_, rfl⟩
            obtain ⟨⟨a0, a1, a2, a3⟩, hav⟩ : ∃ o, o = ao.getD Ver.zero := ⟨_, rfl⟩
            have ev1 : seen ao = .tuple #[.agg #[.int .i64 a0, .int .i64 a1, .bool a2, .string a3], .bool ob] := by unfold seen; rw [← hav, ← hob]; rfl
            obtain ⟨hb, hhb⟩ : ∃ o, o = bo.isSome := ⟨_, rfl⟩
            obtain ⟨⟨v0, v1, v2, v3⟩, hbv⟩ : ∃ o, o = bo.getD Ver.zero := ⟨_, rfl⟩
            have ev2 : seen bo = .tuple #[.agg #[.int .i64 v0, .int .i64 v1, .bool v2, .string v3], .bool hb] := by unfold seen; rw [← hbv, ← hhb]; rfl
            have Hq1 := Lib.hid q1
            have Hq2 := Lib.hid q2
            have Hq3 := Lib.hid q3
            have Hq4 := Lib.hid q4
            have Hev1 := Lib.hid ev1
            have Hev2 := Lib.hid ev2
            clear hao hbo q1 q2 q3 q4 hob hav ev1 hhb hbv ev2
            have TA := Lib.hid (TR.out.below HB5.out)
            have BA := Lib.hid (HB5.out)
            go_wp2_with fail
            refine (at_two w1.heap.size p1 p2 n n (c, prnS f st.2) st k t _ TA.out G4.out hks (by omega)).mono ?_
            rintro e w10 ⟨he, b10⟩
            rw [Hq1.out, Hev1.out] at he
            subst he
            have TA := Lib.hid (TA.out.below b10)
            have BA := Lib.hid (BA.out.trans (b10.mono BA.out.size))
            clear b10
            go_wp2_with fail
            have baB := (Below.refl w10.heap.size w10).alloc (Nat.le_refl _) (.cells #[.int .i64 a0, .int .i64 a1, .bool a2, .string a3] 27)
            have raB := RowAt.new w10 27 (Ver.cells ⟨a0, a1, a2, a3⟩)
            refine (at_two w1.heap.size p2 p1 n n st (c, prnS f st.2) k t _ (TA.out.swap.below baB) HG.out hks (by omega)).mono ?_
            rintro e w11 ⟨he, b11⟩
            rw [Hq2.out, Hev1.out] at he
            subst he
            have RA := Lib.hid (raB.below b11)
            have TA := Lib.hid ((TA.out.below baB).below b11)
            have BA := Lib.hid (BA.out.trans ((baB.trans (b11.mono baB.size)).mono BA.out.size))
            clear baB raB b11
            go_wp2_with fail
            have baC := (Below.refl w11.heap.size w11).alloc (Nat.le_refl _) (.cells #[.int .i64 a0, .int .i64 a1, .bool a2, .string a3] 27)
            have raC := RowAt.new w11 27 (Ver.cells ⟨a0, a1, a2, a3⟩)
            refine (after_two w1.heap.size p1 p2 n n (c, prnS f st.2) st k t _ (TA.out.below baC) G4.out hks (by omega)).mono ?_
            rintro e w12 ⟨he, b12⟩
            rw [Hq3.out, Hev2.out] at he
            subst he
            have RA := Lib.hid ((RA.out.below baC).below b12)
            have RB := Lib.hid (raC.below b12)
            have TA := Lib.hid ((TA.out.below baC).below b12)
            have BA := Lib.hid (BA.out.trans ((baC.trans (b12.mono baC.size)).mono BA.out.size))
            clear baC raC b12
            go_wp2_with fail
            have baD := (Below.refl w12.heap.size w12).alloc (Nat.le_refl _) (.cells #[.int .i64 v0, .int .i64 v1, .bool v2, .string v3] 27)
            have raD := RowAt.new w12 27 (Ver.cells ⟨v0, v1, v2, v3⟩)
            refine (after_two w1.heap.size p2 p1 n n st (c, prnS f st.2) k t _ (TA.out.swap.below baD) HG.out hks (by omega)).mono ?_
            rintro e w13 ⟨he, b13⟩
            rw [Hq4.out, Hev2.out] at he
            subst he
            have RA := Lib.hid ((RA.out.below baD).below b13)
            have RB := Lib.hid ((RB.out.below baD).below b13)
            have RC := Lib.hid (raD.below b13)
            have TA := Lib.hid ((TA.out.below baD).below b13)
            have BA := Lib.hid (BA.out.trans ((baD.trans (b13.mono baD.size)).mono BA.out.size))
            clear baD raD b13
            have baZ := (Below.refl w13.heap.size w13).alloc (Nat.le_refl _) (.cells #[.int .i64 v0, .int .i64 v1, .bool v2, .string v3] 27)
            have cRA := (RA.out.below baZ).cell
            have cRA0 := cRA 0
            have cRA1 := cRA 1
            have cRA2 := cRA 2
            have cRA3 := cRA 3
            have cRB := (RB.out.below baZ).cell
            have cRB0 := cRB 0
            have cRB1 := cRB 1
            have cRB2 := cRB 2
            have cRB3 := cRB 3
            have cRC := (RC.out.below baZ).cell
            have cRC0 := cRC 0
            have cRC1 := cRC 1
            have cRC2 := cRC 2
            have cRC3 := cRC 3
            simp only [Ver.cells, List.getElem?_cons_zero, List.getElem?_cons_succ] at cRA0 cRA1 cRA2 cRA3 cRB0 cRB1 cRB2 cRB3 cRC0 cRC1 cRC2 cRC3
            have BZ := Lib.hid (BA.out.trans (baZ.mono BA.out.size))
            have hsA : Ver.eqb ⟨a0, a1, a2, a3⟩ ⟨a0, a1, a2, a3⟩ = true := (Ver.eqb_iff _ _).2 rfl
            have hsB : Ver.eqb ⟨v0, v1, v2, v3⟩ ⟨v0, v1, v2, v3⟩ = true := (Ver.eqb_iff _ _).2 rfl
            clear baZ cRA cRB cRC
            go_wp2_with fail
            exact ⟨⟨m + 1, rfl, by omega, BZ⟩, by show n2 - ((m : Int) + 1).toNat < n2 - (m : Int).toNat; omega⟩
        · obtain rfl : m = n2 := by omega
          have T5 := Lib.hid (TR.out.below HB5.out)
          have hri := (G4.out.inc k).rising
          have hln : 0 < (prn f (st.2 k)).length := List.length_pos_iff.2 (prn_ne HNE.out)
          obtain ⟨l, hl⟩ : ∃ l, l = prn f (st.2 k) := ⟨_, rfl⟩
          have hcl : cut l f ≤ 1 := by rw [hl]; exact cut_prn _ _
          have hlb : l.length ≤ n := by
            obtain ⟨F1, F2, h1, _⟩ := T5.out
            obtain ⟨_, _, _, _, _, _, _, _, _, _, _, q⟩ := h1
            rw [hl]
            exact q k
          rw [show (c, prnS f st.2).2 k = prn f (st.2 k) from rfl, ← hl] at hri
          rw [← hl] at hln
          have HL := Lib.hid hl
          have HCL := Lib.hid hcl
          have HRI := Lib.hid hri
          clear hl hcl hri
          go_wp2_with fail
          refine (chain_two w1.heap.size p1 p2 n n (c, prnS f st.2) st k _ T5.out hks (by omega)).mono ?_
          rintro e w10 ⟨v4, rfl, o4, b10⟩
          rw [show (c, prnS f st.2).2 k = prn f (st.2 k) from rfl, ← HL.out] at o4
          obtain ⟨A7, cl7, rfl⟩ := own_form o4
          have B10 := Lib.hid (HB.out.trans ((HB5.out.trans (b10.mono HB5.out.size)).mono HB.out.size))
          obtain ⟨nl, hnl⟩ : ∃ m, m = l.length := ⟨_, rfl⟩
          rw [← hnl] at o4 hln hlb ⊢
          have HNL := Lib.hid hnl
          have O4 := Lib.hid (Own.mono o4 (Nat.zero_le _))
          have hz1 : decide ((nl : Int) < 1) = false := decide_eq_false (by omega)
          clear b10 o4 hnl
          by_cases hl1 : nl = 1
          · subst hl1
            go_wp2_with fail
            exact ⟨⟨j + 1, rfl, by omega, B10⟩, by show nk - ((j : Int) + 1).toNat < nk - (j : Int).toNat; omega⟩
          · obtain ⟨g4, x, rfl, hx, c40, c41, c42, c43⟩ := (VOwn.vers O4.out).cells (i := 1) (by rw [← HNL.out]; omega)
            have hz2 : decide ((1 : Int) < (nl : Int)) = true := decide_eq_true (by omega)
            have hz4 : decide (1 < nl) = true := decide_eq_true (by omega)
            have hz3 : decide (x.commit ≤ f) = false := decide_eq_false fun h => by
              have := (cut_iff HRI.out hx).1 h
              have := HCL.out
              omega
            clear hx
            go_wp2_with fail
            exact ⟨⟨j + 1, rfl, by omega, B10⟩, by show nk - ((j : Int) + 1).toNat < nk - (j : Int).toNat; omega⟩
    · obtain rfl : j = nk := by omega
      have T10 := Lib.hid (T9.out.below HB.out)
      have B10 := Lib.hid (B9.out.trans (HB.out.mono B9.out.size))
      have hta : Tails (c, prnS f st.2) st := fun k => last_prn _ _
      have HTA := Lib.hid hta
      clear hta T9 B9 HB HNK HS O9 HK K9 HR2 HN2
      go_wp2_with fail
      go_loopw [156] (fun i wr => ∃ (m : Nat) (s1 s2 : Store), i = .int .i64 m ∧ m ≤ n3 ∧ Hid (Tails s1 s2) ∧ Hid (Two w1.heap.size wr p1 p2 (n + m) (n + m) s1 s2) ∧ Hid (Below w1.heap.size w1 wr)) (fun i _ => n3 - (intOf i).toNat)
      case atStart => exact ⟨0, _, _, rfl, by omega, HTA, T10, B10⟩
      case round =>
        rename_i wr
        clear HTA T10 B10
        obtain ⟨m, s1, s2, rfl, hm3, HTA, HT, HB9⟩ := hrel
        by_cases hlt3 : m < n3
        · obtain ⟨x, hx⟩ : ∃ x, ys[m]? = some x := ⟨_, List.getElem?_eq_getElem (by rw [HN3.out]; exact hlt3)⟩
          obtain ⟨bb, off, rfl, hb, hc⟩ := ((HR3.out.below B1.out).below HB9.out).at hx
          have hfit := HY.out x (List.mem_of_getElem? hx)
          obtain ⟨kd, tm, ky, ⟨vc, vw, vf, vv⟩⟩ := x
          have hks : ky.size ≤ maxLen := hfit.2.2.1.le
          clear hfit
          have c0 := hc 0 (by omega)
          have c1 := hc 1 (by omega)
          have c2 := hc 2 (by omega)
          have c3 := hc 3 (by omega)
          have c4 := hc 4 (by omega)
          have c5 := hc 5 (by omega)
          have c6 := hc 6 (by omega)
          simp only [Op.cells, List.getElem?_cons_zero, List.getElem?_cons_succ, Nat.add_zero] at c0 c1 c2 c3 c4 c5 c6
          clear hc hx hb
          have hba := (Below.refl wr.heap.size wr).alloc (Nat.le_refl _) (.cells #[.int .i64 kd, .int .i64 tm, .string ky, .int .i64 vc, .int .i64 vw, .bool vf, .string vv] 35)
          obtain ⟨WW, hWW⟩ : ∃ u, u = wr.alloc (.cells #[.int .i64 kd, .int .i64 tm, .string ky, .int .i64 vc, .int .i64 vw, .bool vf, .string vv] 35) := ⟨_, rfl⟩
          have rg := RowAt.new wr 35 [.int .i64 kd, .int .i64 tm, .string ky, .int .i64 vc, .int .i64 vw, .bool vf, .string vv]
          rw [show (Obj.cells (List.toArray [.int .i64 kd, .int .i64 tm, .string ky, .int .i64 vc, .int .i64 vw, .bool vf, .string vv]) 35) = .cells #[.int .i64 kd, .int .i64 tm, .string ky, .int .i64 vc, .int .i64 vw, .bool vf, .string vv] 35 from rfl, ← hWW] at rg
          rw [← hWW] at hba
          have hb1 := hba.drew
          have hsz : wr.heap.size < WW.drew.heap.size := by rw [hWW]; simp [World.drew]
          have HT1 := Lib.hid (HT.out.fresh hb1 hsz)
          have HBD := Lib.hid (HB9.out.trans (hb1.mono HB9.out.size))
          have RG0 := Lib.hid rg
          have RG := Lib.hid rg.drew
          have HWW := Lib.hid hWW
          clear hba hb1 rg hsz hWW
          obtain ⟨r, hr⟩ : ∃ r, refuse ky ⟨vc, vw, vf, vv⟩ (s1.2 ky) = r := ⟨_, rfl⟩
          have hr2 : refuse ky ⟨vc, vw, vf, vv⟩ (s2.2 ky) = r := by rw [← HTA.out.refuse]; exact hr
          have HR1' := Lib.hid hr
          have HR2' := Lib.hid hr2
          clear hr hr2
          have hrr : (r == r) = true := by simp
          have hop : ∀ u, RowAt u wr.heap.size 35 [.int .i64 kd, .int .i64 tm, .string ky, .int .i64 vc, .int .i64 vw, .bool vf, .string vv] → u.cell? ⟨wr.heap.size, 2, none⟩ = some (.string ky) ∧ u.cell? ⟨wr.heap.size, 3, none⟩ = some (.int .i64 vc) ∧ u.cell? ⟨wr.heap.size, 4, none⟩ = some (.int .i64 vw) ∧ u.cell? ⟨wr.heap.size, 5, none⟩ = some (.bool vf) ∧ u.cell? ⟨wr.heap.size, 6, none⟩ = some (.string vv) := fun u hu => ⟨hu.cell 2, hu.cell 3, hu.cell 4, hu.cell 5, hu.cell 6⟩
          have HOP := Lib.hid hop
          clear hop
          go_wp2_with fail
          rw [← HWW.out]
          go_region_held3 (fun w' => w'.cell? ⟨wr.heap.size, 2, none⟩ = some (.string ky) ∧ w'.cell? ⟨wr.heap.size, 3, none⟩ = some (.int .i64 vc) ∧ w'.cell? ⟨wr.heap.size, 4, none⟩ = some (.int .i64 vw) ∧ w'.cell? ⟨wr.heap.size, 5, none⟩ = some (.bool vf) ∧ w'.cell? ⟨wr.heap.size, 6, none⟩ = some (.string vv))
            (first | exact HOP.out _ RI.out | exact HOP.out _ RH.out | exact HOP.out _ RG.out | exact HOP.out _ RG0.out)
            (first
              | (go_at_call 15; refine (install_twoG wr.heap.size w1.heap.size p2 p1 (n + m) (n + m + 1) s2 _ ky ⟨vc, vw, vf, vv⟩ _ 35 _ HT2.out.swap RH.out HB20.out.size hks (by omega)).mono ?_; rintro e w21 ⟨he, t21, b21, r21⟩; rw [HR2'.out] at he; subst he; have RI := Lib.hid r21; have HT3 := Lib.hid t21.swap.two; have HB21 := Lib.hid (HB20.out.trans b21); clear t21 b21 r21)
              | (go_at_call 15; refine (install_twoG wr.heap.size w1.heap.size p1 p2 (n + m) (n + m) s1 s2 ky ⟨vc, vw, vf, vv⟩ _ 35 _ HT1.out RG.out HBD.out.size hks (by omega)).mono ?_; rintro e w20 ⟨he, t20, b20, r20⟩; rw [HR1'.out] at he; subst he; have RH := Lib.hid r20; have HT2 := Lib.hid t20; have HB20 := Lib.hid (HBD.out.trans b20); clear t20 b20 r20))
          go_wp2_with fail
          exact ⟨⟨m + 1, _, _, rfl, by omega, Lib.hid (HTA.out.play _ _), HT3, HB21⟩, by show n3 - ((m : Int) + 1).toNat < n3 - (m : Int).toNat; omega⟩
        · obtain rfl : m = n3 := by omega
          go_wp2_with fail
          go_ret
          exact ⟨rfl, B1.out.trans (HB9.out.mono B1.out.size)⟩

end Go.Proofs.Ytkbnfnfjmofcmaa
