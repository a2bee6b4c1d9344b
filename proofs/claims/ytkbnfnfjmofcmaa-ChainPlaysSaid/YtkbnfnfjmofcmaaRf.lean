/- ChainRefuses: the walk. -/
import Derived.Test.YtkbnfnfjmofcmaaRt
namespace Go.Proofs.Ytkbnfnfjmofcmaa
set_option linter.unusedVariables false
set_option linter.unusedSimpArgs false
open Go.RowKit
attribute [local go_sem high] eqVer

/-- The store, and the document's list beside it. -/
def Both (B : Nat) (w : World) (p r N M : Nat) (s : Store) (all : List RV) : Prop := ∃ F G, SAt F w p s.1 N s.2 ∧ RAt G w r M all ∧ (∀ i, F i → ¬ G i) ∧ (∀ i, F i → B ≤ i) ∧ ∀ i, G i → B ≤ i
theorem Both.below {B : Nat} {w w' : World} {p r N M : Nat} {s : Store} {all : List RV} (h : Both B w p r N M s all) (hb : Below w.heap.size w w') : Both B w' p r N M s all := by
  obtain ⟨F, G, h1, h2, h3⟩ := h
  exact ⟨F, G, h1.below hb, h2.below hb, h3⟩
theorem Both.mono {B : Nat} {w : World} {p r N M N' M' : Nat} {s : Store} {all : List RV} (h : Both B w p r N M s all) (hN : N ≤ N') (hM : M ≤ M') : Both B w p r N' M' s all := by
  obtain ⟨F, G, h1, h2, h3⟩ := h
  exact ⟨F, G, h1.mono hN, h2.mono hM, h3⟩
theorem new_list (w w' : World) (B p N : Nat) (s : Store) (h : SAt' B w p N s) (hB : B ≤ w.heap.size) (hb : Below w.heap.size w w') (r : RowAt w' w.heap.size 47 [.slice none 0 0]) : Both B w' p w.heap.size N 0 s [] := by
  obtain ⟨F, h1, h2⟩ := h
  refine ⟨F, fun i => i = w.heap.size, h1.below hb, ⟨none, 0, r, Own.nil _ _ _ _ _, rfl, fun g hg => by simp [Value.ownBlock] at hg, fun i hi => by rw [hi]; exact r.lt, Nat.le_refl _⟩, fun i hi he => ?_, h2, fun i hi => by rw [hi]; exact hB⟩
  have := h1.flt i hi
  omega
theorem both_install (B p r N M : Nat) (s : Store) (all : List RV) (k : ByteArray) (v : Ver) (w : World) (h : Both B w p r N M s all) (hB : B ≤ w.heap.size) (hk : k.size ≤ maxLen) (hN : N < 3000000000000) :
    Calls Try.prog 15 #[.pointer (some ⟨p, 0, none⟩), .string k, .agg #[.int .i64 v.commit, .int .i64 v.writer, .bool v.found, .string v.value]] w fun e w' => e = .returned (.int .i64 (refuse k v (s.2 k))) ∧ Both B w' p r (N + 1) M (play1 s k v) all ∧ Below B w w' := by
  obtain ⟨F, G, h1, h2, h3, h4, h5⟩ := h
  refine (install_play F p N s k v w h1 hk hN).mono fun e w' ⟨he, F', a1, a2, a3⟩ => ⟨he, ⟨F', G, a1, (h2.turn a3 fun i hi hh => h3 i hh hi), fun i hi hh => ?_, fun i hi => ?_, h5⟩, a3.below hB fun i hi hF => ?_⟩
  · rcases a2 i hi with h | h
    · exact h3 i h hh
    · have := h2.flt i hh
      omega
  · rcases a2 i hi with h | h
    · exact h4 i h
    · omega
  · have := h4 i hF
    omega
theorem both_rinstall (B p r N M : Nat) (s : Store) (all : List RV) (k : ByteArray) (v : Ver) (w : World) (h : Both B w p r N M s all) (hB : B ≤ w.heap.size) (hk : k.size ≤ maxLen) (hv : v.value.size ≤ maxLen) (hM : M < 2300000000000) :
    Calls Try.prog 21 #[.pointer (some ⟨r, 0, none⟩), .agg #[.string k, .int .i64 v.commit, .int .i64 v.writer, .bool v.found, .string v.value]] w fun e w' => e = .returned (.int .i64 (refR k v all)) ∧ Both B w' p r N (M + 1) s (if refR k v all = 0 then all ++ [⟨k, v⟩] else all) ∧ Below B w w' := by
  obtain ⟨F, G, h1, h2, h3, h4, h5⟩ := h
  refine (rinstall_any G r M all k v w h2 hk hv hM).mono fun e w' ⟨he, G', a1, a2, a3⟩ => ⟨he, ⟨F, G', (h1.turn a3 fun i hi hh => h3 i hi hh), a1, fun i hi hh => ?_, h4, fun i hi => ?_⟩, a3.below hB fun i hi hF => ?_⟩
  · rcases a2 i hh with h | h
    · exact h3 i hi h
    · have := h1.flt i hi
      omega
  · rcases a2 i hi with h | h
    · exact h5 i h
    · omega
  · have := h5 i hF
    omega
/-- The document's list of a script's installs. -/
def rfill (xs : List Op) : List RV := xs.foldl (fun all o => if o.kind = 1 then (if refR o.key o.v all = 0 then all ++ [⟨o.key, o.v⟩] else all) else all) []
theorem rfill_snoc (xs : List Op) (o : Op) : rfill (xs ++ [o]) = if o.kind = 1 then (if refR o.key o.v (rfill xs) = 0 then rfill xs ++ [⟨o.key, o.v⟩] else rfill xs) else rfill xs := by
  unfold rfill
  rw [List.foldl_append]
  rfl
theorem fill_sim (xs : List Op) : Sim (fillF xs) (rfill xs) := by
  have : ∀ (xs : List Op) (s : Store) (all : List RV), Sim s all → Sim (xs.foldl (fun s o => if o.kind = 1 then play1 s o.key o.v else s) s) (xs.foldl (fun all o => if o.kind = 1 then (if refR o.key o.v all = 0 then all ++ [⟨o.key, o.v⟩] else all) else all) all) := by
    intro xs
    induction xs with
    | nil => intro s all h; exact h
    | cons o xs ih =>
      intro s all h
      rw [List.foldl_cons, List.foldl_cons]
      refine ih _ _ ?_
      split
      · exact h.play _ _
      · exact h
  exact this xs _ _ Sim.nil
theorem ref_small {k : ByteArray} {v : Ver} {all : List RV} (h : refR k v all = 0) : k.size ≤ 8 := by
  unfold refR at h
  split at h
  · omega
  · omega
theorem rput_small {k : ByteArray} {v : Ver} {all : List RV} (h : ∀ x ∈ all, x.key.size ≤ 8) : ∀ x ∈ (if refR k v all = 0 then all ++ [⟨k, v⟩] else all), x.key.size ≤ 8 := by
  split
  · rename_i h0
    intro x hx
    rcases List.mem_append.1 hx with hx | hx
    · exact h x hx
    · rw [List.mem_singleton] at hx
      subst hx
      exact ref_small h0
  · exact h
theorem rfill_small (xs : List Op) : ∀ x ∈ rfill xs, x.key.size ≤ 8 := by
  have : ∀ (xs : List Op) (all : List RV), (∀ x ∈ all, x.key.size ≤ 8) → ∀ x ∈ (xs.foldl (fun all o => if o.kind = 1 then (if refR o.key o.v all = 0 then all ++ [⟨o.key, o.v⟩] else all) else all) all), x.key.size ≤ 8 := by
    intro xs
    induction xs with
    | nil => intro all h; exact h
    | cons o xs ih =>
      intro all h
      rw [List.foldl_cons]
      refine ih _ ?_
      split
      · exact rput_small h
      · exact h
  exact this xs [] (by simp)
set_option maxRecDepth 100000 in
set_option maxHeartbeats 6400000 in
theorem refuses_walk (A : Option Addr) (n cap : Nat) (xs : List Op) (key : ByteArray) (v : Ver) (w : World) (hn : xs.length = n) (hm : n < 2200000000000) (hx : ∀ o ∈ xs, o.Fits) (hk : key.size ≤ maxLen) (hv : v.value.size ≤ maxLen) (h : SliceRd w A 7 Op.cells xs) :
    Calls Try.prog 8 #[.slice A n cap, .string key, .agg #[.int .i64 v.commit, .int .i64 v.writer, .bool v.found, .string v.value]] w fun e w' => e = .returned (.bool true) ∧ Below w.heap.size w w' := by
  obtain ⟨c, u, f, s⟩ := v
  have hba := (Below.refl w.heap.size w).alloc (Nat.le_refl _) (.cells #[.int .i64 c, .int .i64 u, .bool f, .string s] 27)
  have rba := RowAt.new w 27 [.int .i64 c, .int .i64 u, .bool f, .string s]
  obtain ⟨W0, hW0⟩ : ∃ WW : World, WW = w.alloc (.cells #[.int .i64 c, .int .i64 u, .bool f, .string s] 27) := ⟨_, rfl⟩
  rw [show (Obj.cells (List.toArray [.int .i64 c, .int .i64 u, .bool f, .string s]) 27) = .cells #[.int .i64 c, .int .i64 u, .bool f, .string s] 27 from rfl, ← hW0] at rba
  rw [← hW0] at hba
  have HW0 := Lib.hid hW0
  have HX := Lib.hid hx
  have HN := Lib.hid hn
  have HR := Lib.hid h
  have HK := Lib.hid hk
  have HV := Lib.hid hv
  have HB0 := Lib.hid hba
  have RB0 := Lib.hid rba
  clear hx hn h hk hv hba rba hW0
  go_enter Try.func8, Try.ntmps8
  go_wp2_with fail
  rw [← HW0.out]
  refine (anchor_any W0).mono ?_
  rintro e w1 ⟨rfl, b1⟩
  have HB1 := Lib.hid (HB0.out.trans (b1.mono HB0.out.size))
  have RB1 := Lib.hid (RB0.out.below b1)
  clear b1 HB0 RB0
  go_wp2_with fail
  refine (fill_any A n cap xs _ HN.out (by omega) HX.out (HR.out.below HB1.out)).mono ?_
  rintro e w2 ⟨p, rfl, s2, b2⟩
  have S2 := Lib.hid s2
  have B2 := Lib.hid b2
  clear s2 b2
  have hbr := (Below.refl w2.heap.size w2).alloc (Nat.le_refl _) (.cells #[.slice none 0 0] 47)
  have BO := Lib.hid (new_list w2 _ w1.heap.size p n (fillF xs) S2.out B2.out.size hbr (RowAt.new w2 47 [.slice none 0 0]))
  have BB := Lib.hid (B2.out.trans (hbr.mono B2.out.size))
  obtain ⟨r, hr⟩ : ∃ r, r = w2.heap.size := ⟨_, rfl⟩
  rw [← hr] at BO
  obtain ⟨st, hst⟩ : ∃ s, s = fillF xs := ⟨_, rfl⟩
  rw [← hst] at BO
  have HST := Lib.hid hst
  clear hbr hst
  go_wp2_with fail
  rw [← hr]
  have HRR := Lib.hid hr
  clear hr
  go_loopw [25] (fun i wr => ∃ k : Nat, k ≤ n ∧ i = .int .i64 k ∧ Hid (Both w1.heap.size wr p r n k st (rfill (xs.take k))) ∧ Hid (Below w1.heap.size w1 wr)) (fun i _ => n - (intOf i).toNat)
  case atStart => exact ⟨0, by omega, rfl, BO.out, BB.out⟩
  case round =>
    clear BO BB
    obtain ⟨k, hk, rfl, HBO, HB⟩ := hrel
    by_cases hlt : k < n
    · obtain ⟨x, hx⟩ : ∃ x, xs[k]? = some x := ⟨_, List.getElem?_eq_getElem (by rw [HN.out]; exact hlt)⟩
      obtain ⟨b, off, rfl, hb, hc⟩ := ((HR.out.below HB1.out).below HB.out).at hx
      have FX := Lib.hid (HX.out x (List.mem_of_getElem? hx))
      have HT := Lib.hid (show rfill (xs.take (k + 1)) = if x.kind = 1 then (if refR x.key x.v (rfill (xs.take k)) = 0 then rfill (xs.take k) ++ [⟨x.key, x.v⟩] else rfill (xs.take k)) else rfill (xs.take k) by
        rw [List.take_add_one, hx, Option.toList_some, rfill_snoc])
      obtain ⟨kd, tm, ky, ⟨vc, vw, vf, vv⟩⟩ := x
      have c0 := hc 0 (by omega)
      have c1 := hc 1 (by omega)
      have c2 := hc 2 (by omega)
      have c3 := hc 3 (by omega)
      have c4 := hc 4 (by omega)
      have c5 := hc 5 (by omega)
      have c6 := hc 6 (by omega)
      simp only [Op.cells, List.getElem?_cons_zero, List.getElem?_cons_succ, Nat.add_zero] at c0 c1 c2 c3 c4 c5 c6
      clear hc hx hb
      have hba := (Below.refl wr.heap.size wr).alloc (Nat.le_refl _) (.cells #[.int .i64 kd, .int .i64 tm, .string ky, .int .i64 vc, .int .i64 vw, .bool vf, .string vv] 35)
      have HBA := Lib.hid (HBO.out.below hba)
      have BA := Lib.hid (HB.out.trans (hba.mono HB.out.size))
      clear hba
      by_cases h1 : kd = 1
      · have HT1 := Lib.hid (HT.out.trans (if_pos h1))
        subst h1
        go_wp2_with fail
        refine (with_any ky ⟨vc, vw, vf, vv⟩ _).mono ?_
        rintro e w5 ⟨rfl, b5⟩
        have HB5 := Lib.hid (HBA.out.below b5)
        have B5 := Lib.hid (BA.out.trans (b5.mono BA.out.size))
        clear b5
        go_wp2_with fail
        refine (both_rinstall w1.heap.size p r n k st _ ky ⟨vc, vw, vf, vv⟩ _ HB5.out B5.out.size FX.out.2.2.1.le FX.out.2.2.2.2.2.le (by omega)).mono ?_
        rintro e w6 ⟨rfl, t6, b6⟩
        have T6 := Lib.hid (show Both w1.heap.size w6 p r n (k + 1) st (rfill (xs.take (k + 1))) by rw [HT1.out]; exact t6)
        have B6 := Lib.hid (B5.out.trans b6)
        clear t6 b6 c0 c1 c2 c3 c4 c5 c6
        go_wp2_with fail
        exact ⟨⟨k + 1, by omega, rfl, T6, B6⟩, by show n - ((k : Int) + 1).toNat < n - (k : Int).toNat; omega⟩
      · have HT1 := Lib.hid (HT.out.trans (if_neg h1))
        have hne : (kd == 1) = false := by simpa using h1
        go_wp2_with fail
        exact ⟨⟨k + 1, by omega, rfl, by rw [HT1.out]; exact HBA.out.mono (by omega) (by omega), BA⟩, by show n - ((k : Int) + 1).toNat < n - (k : Int).toNat; omega⟩
    · have e : k = n := by omega
      subst e
      have hall : xs.take k = xs := List.take_of_length_le (by rw [HN.out]; exact Nat.le_refl _)
      have SIM := Lib.hid (fill_sim xs)
      have SML := Lib.hid (rfill_small xs)
      rw [hall] at HBO
      rw [← HST.out] at SIM
      obtain ⟨all, hal⟩ : ∃ a, a = rfill xs := ⟨_, rfl⟩
      rw [← hal] at HBO SIM SML
      clear hall hal HST HN HX HR
      have hcb : st.1 ≤ k := by
        obtain ⟨F, G, h1, _⟩ := HBO.out
        obtain ⟨_, _, _, _, _, _, _, _, _, _, q, _⟩ := h1
        exact q
      go_wp2_with fail
      obtain ⟨F0, G0, f1, f2, f3⟩ := HBO.out
      refine (count_any F0 p st.1 k st.2 _ f1).mono ?_
      rintro e w4 ⟨rfl, rfl⟩
      clear f1 f2 f3
      obtain ⟨c0, hc0⟩ : ∃ c, c = st.1 := ⟨_, rfl⟩
      rw [← hc0] at hcb ⊢
      have HC0 := Lib.hid hc0
      clear hc0
      have rbx := RB1.out.below HB.out
      have x0 := rbx.cell 0
      have x1 := rbx.cell 1
      have x2 := rbx.cell 2
      have x3 := rbx.cell 3
      simp only [List.getElem?_cons_zero, List.getElem?_cons_succ] at x0 x1 x2 x3
      clear rbx
      go_wp2_with fail
      refine (both_install w1.heap.size p r k k st all key ⟨c, u, f, s⟩ _ HBO.out HB.out.size HK.out (by omega)).mono ?_
      rintro e w5 ⟨rfl, t5, b5⟩
      rw [SIM.out.refuse]
      obtain ⟨rr, hrr⟩ : ∃ z, z = refR key ⟨c, u, f, s⟩ all := ⟨_, rfl⟩
      rw [← hrr]
      have HRR2 := Lib.hid hrr
      have T5 := Lib.hid t5
      have B5 := Lib.hid (HB.out.trans b5)
      have rbx := RB1.out.below B5.out
      have y0 := rbx.cell 0
      have y1 := rbx.cell 1
      have y2 := rbx.cell 2
      have y3 := rbx.cell 3
      simp only [List.getElem?_cons_zero, List.getElem?_cons_succ] at y0 y1 y2 y3
      clear rbx t5 b5 x0 x1 x2 x3 hrr
      have hrq : (rr == rr) = true := by simp
      go_wp2_with fail
      refine (with_any key ⟨c, u, f, s⟩ _).mono ?_
      rintro e w6 ⟨rfl, b6⟩
      have T6 := Lib.hid (T5.out.below b6)
      have B6 := Lib.hid (B5.out.trans (b6.mono B5.out.size))
      clear b6 y0 y1 y2 y3
      go_wp2_with fail
      refine (both_rinstall w1.heap.size p r (k + 1) k _ all key ⟨c, u, f, s⟩ _ T6.out B6.out.size HK.out HV.out (by omega)).mono ?_
      rintro e w7 ⟨he, t7, b7⟩
      rw [← HRR2.out] at he t7
      subst he
      have T7 := Lib.hid t7
      have B7 := Lib.hid (B6.out.trans b7)
      clear t7 b7
      have SIM2 := Lib.hid (SIM.out.play key ⟨c, u, f, s⟩)
      rw [← HRR2.out] at SIM2
      go_wp2_with fail
      obtain ⟨F7, G7, f1, f2, f3⟩ := T7.out
      refine (chain_any F7 p _ (k + 1) _ key _ f1 HK.out (by omega)).mono ?_
      rintro e w8 ⟨v8, rfl, o8, b8⟩
      obtain ⟨A8, c8, rfl⟩ := own_form o8
      have B8 := Lib.hid (B7.out.trans (b8.mono B7.out.size))
      have O8 := Lib.hid o8
      have S8 := Lib.hid (f1.below b8)
      have R8 := Lib.hid (f2.below b8)
      clear f1 f2 f3 o8 b8 T5 T6
      by_cases h0 : rr = 0
      · have HP := Lib.hid (show play1 st key ⟨c, u, f, s⟩ = (st.1 + 1, upd st.2 key (st.2 key ++ [⟨c, u, f, s⟩])) by unfold play1; rw [SIM.out.refuse, ← HRR2.out, if_pos h0])
        have hl8 : (play1 st key ⟨c, u, f, s⟩).2 key = st.2 key ++ [⟨c, u, f, s⟩] := by rw [HP.out]; show upd _ _ _ key = _; unfold upd; rw [if_pos rfl]
        rw [hl8] at O8 ⊢
        obtain ⟨m, hm⟩ : ∃ m, m = (st.2 key).length := ⟨_, rfl⟩
        have hle : (st.2 key ++ [(⟨c, u, f, s⟩ : Ver)]).length = m + 1 := by rw [hm]; simp
        have hmk : m ≤ k := by
          obtain ⟨F, G, h1, _⟩ := HBO.out
          obtain ⟨_, _, _, _, _, _, _, _, _, _, _, q⟩ := h1
          rw [hm]
          exact q key
        rw [hle] at O8 ⊢
        obtain ⟨g, x, rfl, hx, -⟩ := (VOwn.vers (Own.mono O8.out (Nat.zero_le _))).cells (i := m) (by rw [hle]; omega)
        have hxv : x = ⟨c, u, f, s⟩ := by
          rw [List.getElem?_append_right (by rw [hm]; exact Nat.le_refl _), hm, Nat.sub_self] at hx
          injection hx with hx
          exact hx.symm
        subst hxv
        have hfx : ∀ w', Below w8.heap.size w8 w' → w'.cell? ⟨w.heap.size, 0, none⟩ = some (.int .i64 c) ∧ w'.cell? ⟨w.heap.size, 1, none⟩ = some (.int .i64 u) ∧ w'.cell? ⟨w.heap.size, 2, none⟩ = some (.bool f) ∧ w'.cell? ⟨w.heap.size, 3, none⟩ = some (.string s) ∧ w'.cell? ⟨g, m * 4, none⟩ = some (.int .i64 c) ∧ w'.cell? ⟨g, m * 4 + 1, none⟩ = some (.int .i64 u) ∧ w'.cell? ⟨g, m * 4 + 2, none⟩ = some (.bool f) ∧ w'.cell? ⟨g, m * 4 + 3, none⟩ = some (.string s) := by
          intro w' hb
          obtain ⟨g', x', e1, hx', z0, z1, z2, z3⟩ := (VOwn.vers (Own.below (Own.mono O8.out (Nat.zero_le _)) hb)).cells (i := m) (by rw [hle]; omega)
          obtain rfl : g = g' := by injection e1 with e1; injection e1
          rw [hx] at hx'
          injection hx' with hx'
          subst hx'
          have rr := (RB1.out.below B8.out).below hb
          exact ⟨rr.cell 0, rr.cell 1, rr.cell 2, rr.cell 3, z0, z1, z2, z3⟩
        have HFX := Lib.hid hfx
        have hp1 : (play1 st key ⟨c, u, f, s⟩).1 = c0 + 1 := by rw [HP.out, HC0.out]
        rw [hp1] at S8
        have HM := Lib.hid hm
        subst h0
        have r0 := Lib.hid (Below.refl w8.heap.size w8)
        have r1 := Lib.hid (Below.refl w8.heap.size w8).drew
        have S9 := Lib.hid (S8.out.below r1.out)
        have BD := Lib.hid (B8.out.trans (r1.out.mono B8.out.size))
        have hw1 : IntKind.i64.wrap ((c0 : Int) + 1) = (c0 : Int) + 1 := wrap_in (by omega) (by omega)
        have hw2 : IntKind.i64.wrap ((m : Int) + 1 - 1) = (m : Int) := by rw [wrap_in (by omega) (by omega)]; omega
        have hw3 : (0 : Int) ≤ (m : Int) := by omega
        have hw4 : (m : Int) < (m : Int) + 1 := by omega
        have hw5 : wrap64 (m : Int) = (m : Int) := wrap64_in (by omega) (by omega)
        have hw6 : IntKind.i64.wrap (m : Int) = (m : Int) := wrap_in (by omega) (by omega)
        have hw7 : m < m + 1 := by omega
        have hd : decide ((0 : Int) < (m : Int) + 1) = true := decide_eq_true (by omega)
        have hcq : ((c0 : Int) + 1 == (c0 : Int) + 1) = true := by simp
        have hsA : Ver.eqb ⟨c, u, f, s⟩ ⟨c, u, f, s⟩ = true := (Ver.eqb_iff _ _).2 rfl
        clear hfx hx hl8 hp1 hle hm
        go_wp2_with fail
        go_region_held3 (fun w' => w'.cell? ⟨w.heap.size, 0, none⟩ = some (.int .i64 c) ∧ w'.cell? ⟨w.heap.size, 1, none⟩ = some (.int .i64 u) ∧ w'.cell? ⟨w.heap.size, 2, none⟩ = some (.bool f) ∧ w'.cell? ⟨w.heap.size, 3, none⟩ = some (.string s) ∧ w'.cell? ⟨g, m * 4, none⟩ = some (.int .i64 c) ∧ w'.cell? ⟨g, m * 4 + 1, none⟩ = some (.int .i64 u) ∧ w'.cell? ⟨g, m * 4 + 2, none⟩ = some (.bool f) ∧ w'.cell? ⟨g, m * 4 + 3, none⟩ = some (.string s))
          (first | exact HFX.out _ r1.out | exact HFX.out _ r0.out)
          ((go_at_call 17; refine (count_any F7 p (c0 + 1) (k + 1) _ _ S9.out).mono ?_; rintro e w9 ⟨he, hw⟩; subst hw; subst he))
        all_goals go_wp2_with fail
        all_goals go_ret
        all_goals exact ⟨rfl, HB1.out.trans (BD.out.mono HB1.out.size)⟩
      · have hr0 : (rr == 0) = false := by simpa using h0
        have HP := Lib.hid (show play1 st key ⟨c, u, f, s⟩ = st by unfold play1; rw [SIM.out.refuse, ← HRR2.out, if_neg h0])
        have HA := Lib.hid (show (if rr = 0 then all ++ [⟨key, ⟨c, u, f, s⟩⟩] else all) = all from if_neg h0)
        rw [HP.out] at S8 SIM2
        rw [HA.out] at R8 SIM2
        have hcq : ((c0 : Int) == (c0 : Int)) = true := by simp
        go_wp2_with fail
        refine (count_any F7 p st.1 (k + 1) st.2 _ S8.out).mono ?_
        rintro e w9 ⟨rfl, rfl⟩
        rw [← HC0.out]
        go_wp2_with fail
        refine (step_chain F7 G7 p r (k + 1) (k + 1) st all 0 key Ver.zero _ S8.out R8.out SIM2.out HK.out (by omega) (by omega)).mono ?_
        rintro e w10 ⟨rfl, b10⟩
        have S10 := Lib.hid (S8.out.below b10)
        have R10 := Lib.hid (R8.out.below b10)
        have B10 := Lib.hid (B8.out.trans (b10.mono B8.out.size))
        clear b10
        go_wp2_with fail
        refine (step_keys F7 G7 p r (k + 1) (k + 1) st all 0 ByteArray.empty Ver.zero _ S10.out R10.out SIM2.out (fun x hx => by have := SML.out x hx; unfold maxLen; omega) (by omega) (by omega)).mono ?_
        rintro e w11 ⟨rfl, b11⟩
        have B11 := Lib.hid (B10.out.trans (b11.mono B10.out.size))
        clear b11
        go_wp2_with fail
        go_ret
        exact ⟨rfl, HB1.out.trans (B11.out.mono HB1.out.size)⟩

end Go.Proofs.Ytkbnfnfjmofcmaa
