/- MachineClock: the walk. -/
import Derived.Test.YtfodagidmdbmlaaNM
import Derived.Test.YtfodagidmdbmlaaNJ
namespace Go.Proofs.Ytfodagidmdbmlaa
set_option linter.unusedVariables false
set_option linter.unusedSimpArgs false
open Go.RowKit Go.ChangeShapes Go.WideShapes Go.Deep

theorem open_none {P : Program} {t e : TypeId} (ht : P.underlying t = some (.slice e)) {H : Type} {enc : TypeId × Value → H} {w : World} {base : Nat} {spare : Nat → Bool} {held : Bool} {A : Option Addr} {len cap : Nat} {d : DataW H} {ps : List MemPlace}
    (h : DataW.Trod enc P w base spare held t (.slice A len cap) d ps) : A = none → cap = 0 := by
  rintro rfl
  obtain ⟨fuel, h⟩ := h
  rcases open_slice ht h with ⟨hcs, hx⟩ | ⟨a, l, c, m, n, D, Pl, hcs, hb, hl, hm, hmm, hx, hi⟩
  · simp [Value.cells] at hcs
    exact hcs.2
  · simp [Value.cells] at hcs
/-- A slice that came in, as an append reads it. -/
theorem SliceRd.read {α : Type} {w : World} {A : Option Addr} {n cap : Nat} {f : α → List Value} {xs : List α} (h : SliceRd w A n f xs) (hf : ∀ x, (f x).length = n) (hz : A = none → cap = 0) : ReadAt w f (.slice A xs.length cap) xs := by
  rcases h with rfl | ⟨b, off, rfl, hb, hc⟩
  · cases A with
    | none => exact .inl ⟨by rw [hz rfl]; rfl, rfl⟩
    | some a =>
      exact .inr ⟨a, cap, rfl, fun j u hj => by simp at hj⟩
  · refine .inr ⟨⟨b, off, none⟩, cap, rfl, fun j u hj => ?_⟩
    rw [add_off]
    have hl : j < xs.length * n := by have := (List.getElem?_eq_some_iff.1 hj).1; rwa [flat_length hf] at this
    have hn : 0 < n := by rcases Nat.eq_zero_or_pos n with h | h; (subst h; omega); exact h
    have hq : j / n * n + j % n = j := by rw [Nat.mul_comm]; exact Nat.div_add_mod j n
    have hi : j / n < xs.length := Nat.div_lt_of_lt_mul (by rw [Nat.mul_comm]; exact hl)
    have h1 := flat_at hf xs (j / n) (j % n) (Nat.mod_lt _ hn) (List.getElem?_eq_getElem hi)
    rw [hq, hj] at h1
    have h2 := hc (j / n) xs[j / n] (List.getElem?_eq_getElem hi) (j % n) (Nat.mod_lt _ hn)
    rw [Nat.add_assoc, hq, ← h1] at h2
    exact h2
theorem Own.rd {α : Type} {w : World} {base : Nat} {e : TypeId} {size : Nat} {f : α → List Value} {A : Option Addr} {n cap : Nat} {xs : List α} (h : Own w base e size f (.slice A n cap) xs) (hf : ∀ x, (f x).length = size) : SliceRd w A size f xs := by
  rcases h.cases with ⟨-, h⟩ | ⟨g, cap, rest, h1, -, -, -, h5⟩
  · exact .inl h
  · injection h1 with h1
    subst h1
    refine .inr ⟨g, 0, rfl, h5.lt, fun i x hx j hj => ?_⟩
    have hl : i < xs.length := (List.getElem?_eq_some_iff.1 hx).1
    have hm : (i + 1) * size ≤ xs.length * size := Nat.mul_le_mul_right _ hl
    rw [Nat.add_mul] at hm
    rw [Nat.zero_add, h5.cell, List.getElem?_append_left (by rw [flat_length hf]; omega)]
    exact flat_at hf xs i j hj hx
/-- n numbers in a row. -/
def rowI (f : Int → Int) (n : Nat) : List Value := (List.range n).map fun (k : Nat) => Value.int .i64 (f k)
theorem rowI_at (f : Int → Int) {n k : Nat} (h : k < n) : (rowI f n)[k]? = some (.int .i64 (f k)) := by
  unfold rowI
  rw [List.getElem?_map, List.getElem?_range h]
  rfl
theorem rowI_set {f g : Int → Int} {n k : Nat} {v : Int} (h : k < n) (h1 : g k = v) (h2 : ∀ j : Int, j ≠ k → g j = f j) : (rowI f n).set k (.int .i64 v) = rowI g n := by
  apply List.ext_getElem?
  intro i
  rw [List.getElem?_set]
  by_cases e : k = i
  · subst e
    rw [if_pos rfl, if_pos (by unfold rowI; simpa using h), rowI_at g h, h1]
  · rw [if_neg e]
    by_cases hi : i < n
    · rw [rowI_at f hi, rowI_at g hi, h2 i (by omega)]
    · unfold rowI
      rw [List.getElem?_eq_none (by simp; omega), List.getElem?_eq_none (by simp; omega)]
theorem rowI_zero {f : Int → Int} (h : ∀ k, f k = 0) (n : Nat) : rowI f n = (List.replicate n (0 : Int)).flatMap intC := by
  have h1 : ∀ n : Nat, (List.replicate n (0 : Int)).flatMap intC = List.replicate n (.int .i64 0) := by
    intro n
    induction n with
    | zero => rfl
    | succ n ih => rw [List.replicate_succ, List.flatMap_cons, ih]; rfl
  rw [h1]
  unfold rowI
  apply List.ext_getElem?
  intro i
  by_cases hi : i < n
  · rw [List.getElem?_map, List.getElem?_range hi, List.getElem?_replicate, if_pos hi, Option.map_some, h]
  · rw [List.getElem?_eq_none (by simp; omega), List.getElem?_eq_none (by simp; omega)]
theorem cntOf_le (rs : List Run) (k : Int) : 0 ≤ cntOf rs k ∧ cntOf rs k ≤ rs.length := by
  unfold cntOf
  have := List.length_filter_le (fun r : Run => r.session == k) rs
  omega
theorem newE_zero {n f : Int} (h : newE n f = 0) : 1 ≤ n ∧ n ≤ 64 := by
  unfold newE at h
  by_cases h1 : n < 1 ∨ 64 < n
  · rw [if_pos h1] at h; cases h
  · omega
set_option maxRecDepth 100000 in
set_option maxHeartbeats 8000000 in
theorem clock_walk (a f : Int) (A : Option Addr) (ln cap : Nat) (xs : List MStep) (w : World) (hn : xs.length = ln) (hm : ln < 2513169434900) (hz : A = none → cap = 0) (hx : ∀ o ∈ xs, o.Fits) (h : SliceRd w A 5 MStep.cells xs) :
    Calls Try.prog 10 #[.int .i64 a, .int .i64 f, .slice A ln cap] w fun e w' => e = .returned (.bool true) ∧ Below w.heap.size w w' := by
  have HX := Lib.hid hx
  have HN := Lib.hid hn
  have HR := Lib.hid h
  have HZ := Lib.hid hz
  clear hx hn h hz
  go_enter Try.func10, Try.ntmps10
  go_wp2_with fail
  refine (anchor_any w).mono ?_
  rintro e w1 ⟨rfl, b1⟩
  have B1 := Lib.hid b1
  have hrd := SliceRd.read (cap := cap) ((HR.out.below b1).below ((Below.refl w1.heap.size w1).alloc (Nat.le_refl _) (.cells #[] 29))) MStep.len HZ.out
  rw [HN.out] at hrd
  have HRD := Lib.hid hrd
  have HO := Lib.hid (own_none_s w1)
  have HSL := Lib.hid (show ([] : List MStep).length + xs.length ≤ maxLen ∧ (([] : List MStep).length + xs.length) * 56 ≤ 140737488355328 by rw [HN.out]; unfold maxLen; simp; omega)
  clear b1 hrd
  go_wp2_with (at_builtin; refine cat_list MStep.cells 29 22 22 29 (.agg #[.int .i64 0, .int .i64 0, .int .i64 0, .string ⟨#[]⟩, .string ⟨#[]⟩]) 5 56 Try.underlying22 Try.underlying22 (by kernel_rfl) rfl (by decide) MStep.len step_one _ _ (by rfl) (by rfl) w1.heap.size (.slice (some ⟨w1.heap.size, 0, none⟩) 0 0) [] xs (by rfl) HO.out (.slice A ln cap) (by rfl) HRD.out HSL.out.1 HSL.out.2 (by simp) ?_)
  intro v2 w2 o2 g2 l2
  obtain ⟨A2, c2, rfl⟩ := own_forms o2
  rw [HN.out] at o2 ⊢
  have B2 := Lib.hid (B1.out.trans ((((Below.refl w1.heap.size w1).alloc (Nat.le_refl _) (.cells #[] 29)).grown g2 (by simp) fun q hq => by
    have : w1.heap.size = q := by simpa [Value.ownBlock] using hq
    omega).mono B1.out.size))
  have R2 := Lib.hid (Own.rd o2 MStep.len)
  clear o2 g2 l2
  by_cases hne : newE a f = 0
  · obtain ⟨na, hna⟩ : ∃ n : Nat, a = n := ⟨a.toNat, by have := newE_zero hne; omega⟩
    subst hna
    have hab := newE_zero hne
    have HNE := Lib.hid hne
    clear hne
    go_wp2_with fail
    refine (emit_any na f A2 ln c2 xs w2 HNE.out HN.out (by omega) HX.out R2.out).mono ?_
    rintro e w3 ⟨v3, ovs, rfl, l3, b3⟩
    obtain ⟨A3, c3, rfl⟩ := own_forms l3.row
    obtain ⟨rs, hrs⟩ : ∃ z, z = runsOf (emitM na f xs) := ⟨_, rfl⟩
    have hlen := emit_len (n := na) (by omega) f xs
    have HCK := Lib.hid (emit_clk (n := na) (by omega) f xs).log
    rw [← hrs] at l3 hlen HCK
    have hzl : (rs.zip ovs).length = rs.length := by rw [List.length_zip, l3.len, Nat.min_self]
    rw [← hrs]
    obtain ⟨nl, hnl⟩ : ∃ z, z = rs.length := ⟨_, rfl⟩
    rw [hzl, ← hnl] at l3 ⊢
    rw [← hnl, HN.out] at hlen
    have HOL := Lib.hid l3.len
    have HNL := Lib.hid hnl
    have L3 := Lib.hid (Own.mono l3.row (Nat.le_trans B2.out.size (Nat.le_refl _)))
    have B3 := Lib.hid (B2.out.trans (b3.mono B2.out.size))
    clear l3 b3 hrs hzl hnl
    have hmk := run_make_flat (P := Try.prog) intC 0 65 3 (.int .i64 0) 8 Try.underlying65 (by kernel_rfl) rfl .i64 .i64 na (by omega) (by omega)
    have hna0 : ¬ (na : Int) < 1 := by omega
    have hna1 : ¬ 64 < (na : Int) := by omega
    have hgt : ¬ (ln : Int) < nl := by omega
    obtain ⟨be, hbe⟩ : ∃ z, z = w3.heap.size := ⟨_, rfl⟩
    obtain ⟨bs, hbs⟩ : ∃ z, z = w3.heap.size + 1 := ⟨_, rfl⟩
    have RE := Lib.hid (show RowAt ((w3.alloc (.cells ((List.replicate na (0 : Int)).flatMap intC).toArray 3)).alloc (.cells ((List.replicate na (0 : Int)).flatMap intC).toArray 3)) be 3 (rowI (endOf (rs.take 0)) na) by
      rw [rowI_zero (f := endOf (rs.take 0)) (fun k => rfl), hbe]
      exact (RowAt.new w3 3 _).alloc _)
    have RS := Lib.hid (show RowAt ((w3.alloc (.cells ((List.replicate na (0 : Int)).flatMap intC).toArray 3)).alloc (.cells ((List.replicate na (0 : Int)).flatMap intC).toArray 3)) bs 3 (rowI (cntOf (rs.take 0)) na) by
      rw [rowI_zero (f := cntOf (rs.take 0)) (fun k => rfl)]
      exact RowAt.new' _ _ 3 _ (by rw [hbs]; simp))
    have hba := ((Below.refl w3.heap.size w3).alloc (Nat.le_refl _) (.cells ((List.replicate na (0 : Int)).flatMap intC).toArray 3)).alloc (by simp) (.cells ((List.replicate na (0 : Int)).flatMap intC).toArray 3)
    have LA := Lib.hid (Own.below L3.out hba)
    have BA := Lib.hid (B3.out.trans (hba.mono B3.out.size))
    have HBE := Lib.hid hbe
    have HBS := Lib.hid hbs
    have HLT := Lib.hid (show ∀ q, (Value.slice A3 nl c3).ownBlock = some q → q ≠ be ∧ q ≠ bs from fun q hq => by have := (Own.base L3.out q hq).2; omega)
    clear hba hbe hbs
    go_wp2_with fail
    clear hmk
    rw [← HBS.out, ← HBE.out]
    go_loopw [11, 61] (fun lx ix wr => ∃ i : Nat, i ≤ nl ∧ lx = .int .i64 (lastOf (rs.take i)) ∧ ix = .int .i64 i ∧ Hid (Own wr w.heap.size 55 8 logC (.slice A3 nl c3) (rs.zip ovs)) ∧ Hid (RowAt wr be 3 (rowI (endOf (rs.take i)) na)) ∧ Hid (RowAt wr bs 3 (rowI (cntOf (rs.take i)) na)) ∧ Hid (Below w.heap.size w wr)) (fun _ ix _ => nl - (intOf ix).toNat)
    case atStart => exact ⟨0, by omega, rfl, rfl, LA, RE, RS, BA⟩
    case round =>
      clear LA RE RS BA
      obtain ⟨i, hi, rfl, rfl, HL, HE, HS, HB⟩ := hrel
      by_cases hlt : i < nl
      · obtain ⟨g, ⟨r, ov⟩, rfl, hx, hc⟩ := own_log HL.out (i := i) (by rw [List.length_zip, HOL.out, Nat.min_self, ← HNL.out]; exact hlt)
        have hxr : rs[i]? = some r := by
          exact (List.getElem?_zip_eq_some.1 hx).1
        have hgd := HCK.out i r hxr
        obtain ⟨A1, n1, c1, hov⟩ : ∃ A1 n1 c1, sliceOf ov = .slice A1 n1 c1 := by
          unfold sliceOf
          split
          · exact ⟨_, _, _, rfl⟩
          · exact ⟨_, _, _, rfl⟩
        have hTK : rs.take (i + 1) = rs.take i ++ [r] := by rw [List.take_add_one, hxr]; rfl
        obtain ⟨x0, x1, x2, x3, x4, x5, x6, x7, x8⟩ := r
        obtain ⟨⟨q1, q2⟩, ⟨q3, q4⟩, q5, ⟨q6, q7⟩, q8, q9, q10⟩ := hgd
        simp only at q1 q2 q3 q4 q5 q6 q7 q8 q9 q10
        obtain ⟨k, rfl⟩ : ∃ k : Nat, x0 = k := ⟨x0.toNat, by omega⟩
        have hkn : k < na := by omega
        subst q4
        unfold logC txnC at hc
        simp only [hov] at hc
        have k0 := hc 0 (by omega)
        have k1 := hc 1 (by omega)
        have k2 := hc 2 (by omega)
        have k3 := hc 3 (by omega)
        have k4 := hc 4 (by omega)
        have k5 := hc 5 (by omega)
        have k6 := hc 6 (by omega)
        have k7 := hc 7 (by omega)
        simp only [List.getElem?_cons_zero, List.getElem?_cons_succ, Nat.add_zero] at k0 k1 k2 k3 k4 k5 k6 k7
        clear hc
        have E1 := Lib.hid (show (rowI (endOf (rs.take i)) na).set k (.int .i64 x3) = rowI (endOf (rs.take (i + 1))) na from rowI_set hkn (by rw [hTK, endOf_snoc, if_pos rfl]) fun j hj => by rw [hTK, endOf_snoc, if_neg fun e => hj e.symm])
        have S1 := Lib.hid (show (rowI (cntOf (rs.take i)) na).set k (.int .i64 (x1 + 1)) = rowI (cntOf (rs.take (i + 1))) na from rowI_set hkn (by rw [hTK, cntOf_snoc, if_pos rfl, q8]) fun j hj => by rw [hTK, cntOf_snoc, if_neg fun e => hj e.symm])
        have T1 := Lib.hid (show lastOf (rs.take (i + 1)) = x3 by rw [hTK, lastOf_snoc])
        have hi0 : (0 : Int) ≤ (i : Int) := by omega
        have hi1 : (i : Int) < (nl : Int) := by omega
        have hk0 : (0 : Int) ≤ (k : Int) := by omega
        have hk1 : (k : Int) < (na : Int) := by omega
        have hba := (Below.refl wr.heap.size wr).alloc (Nat.le_refl _) (.cells #[.int .i64 k, .int .i64 x1, .int .i64 x2, .int .i64 x3, .int .i64 x4, .int .i64 x3, .int .i64 x6, .slice A1 n1 c1] 55)
        have rbt := RowAt.new wr 55 [.int .i64 k, .int .i64 x1, .int .i64 x2, .int .i64 x3, .int .i64 x4, .int .i64 x3, .int .i64 x6, .slice A1 n1 c1]
        have z0 := rbt.cell 0
        have z1 := rbt.cell 1
        have z2 := rbt.cell 2
        have z3 := rbt.cell 3
        have z4 := rbt.cell 4
        have z5 := rbt.cell 5
        simp only [List.getElem?_cons_zero, List.getElem?_cons_succ] at z0 z1 z2 z3 z4 z5
        have RT := Lib.hid rbt
        have LA := Lib.hid (Own.below HL.out hba)
        have EA := Lib.hid (HE.out.below hba)
        have SA := Lib.hid (HS.out.below hba)
        have BA := Lib.hid (HB.out.trans (hba.mono HB.out.size))
        have HBL := Lib.hid (show be < wr.heap.size ∧ bs < wr.heap.size ∧ be ≠ bs from ⟨HE.out.lt, HS.out.lt, by have := HBE.out; have := HBS.out; omega⟩)
        obtain ⟨l0, hl0⟩ : ∃ z, z = lastOf (rs.take i) := ⟨_, rfl⟩
        obtain ⟨en, hen⟩ : ∃ z, z = endOf (rs.take i) k := ⟨_, rfl⟩
        have ec := EA.out.cell k
        have ef := EA.out.frozen k
        have sc := SA.out.cell k
        have sf := SA.out.frozen k
        rw [rowI_at _ hkn] at ec sc
        rw [← hen] at ec q9
        rw [← q8] at sc
        rw [← hl0] at q5
        rw [← hl0]
        have HQ := Lib.hid q10
        have HXR := Lib.hid hxr
        have hp1 : ¬ x2 ≤ x4 := by omega
        have hp2 : ¬ x4 < 0 := by omega
        have hp3 : ¬ x3 ≤ x2 := by omega
        have hp4 : ¬ x3 ≤ l0 := by omega
        have hp5 : ¬ (k : Int) < 0 := by omega
        have hp6 : ¬ (na : Int) ≤ k := by omega
        have hp7 : ¬ x2 ≤ en := by omega
        have hp8 : 0 ≤ x1 ∧ x1 ≤ 4000000000000 := by
          have h1 := cntOf_le (rs.take i) k
          rw [← q8, List.length_take] at h1
          omega
        obtain ⟨hp8, hp9⟩ := hp8
        have hn1 : wr.heap.size ≠ bs := by have := HBL.out.2.1; omega
        have hn2 : wr.heap.size ≠ be := by have := HBL.out.1; omega
        have hn3 : be ≠ bs := HBL.out.2.2
        clear hba rbt hl0 hen q10 hxr hTK hx hov q8 q1 q2 q3 q5 q6 q7 q9
        go_wp2_with fail
        go_region
        go_wp2_with fail
        obtain ⟨wz, hwz⟩ : ∃ z : World, z = (((wr.alloc (.cells #[.int .i64 k, .int .i64 x1, .int .i64 x2, .int .i64 x3, .int .i64 x4, .int .i64 x3, .int .i64 x6, .slice A1 n1 c1] 55)).setCell ⟨bs, k, none⟩ (.int .i64 (x1 + 1))).setCell ⟨be, k, none⟩ (.int .i64 x3)).drew := ⟨_, rfl⟩
        have tz : Turn (fun q => q = be ∨ q = bs) (wr.alloc (.cells #[.int .i64 k, .int .i64 x1, .int .i64 x2, .int .i64 x3, .int .i64 x4, .int .i64 x3, .int .i64 x6, .slice A1 n1 c1] 55)) wz := by
          rw [hwz]
          exact ((Turn.setCell (S := fun q => q = be ∨ q = bs) (p := ⟨bs, k, none⟩) (Turn.refl _ _) (.inl (.inr rfl)) _).setCell (p := ⟨be, k, none⟩) (.inl (.inl rfl)) _).drew
        have LZ := Lib.hid (Own.turn LA.out tz fun q hq e => by have := HLT.out q hq; omega)
        have EZ := Lib.hid (show RowAt wz be 3 (rowI (endOf (rs.take (i + 1))) na) by
          rw [hwz, ← E1.out]
          exact ((EA.out.far (p := ⟨bs, k, none⟩) hn3 _).set k _).drew)
        have SZ := Lib.hid (show RowAt wz bs 3 (rowI (cntOf (rs.take (i + 1))) na) by
          rw [hwz, ← S1.out]
          exact ((SA.out.set k _).far (p := ⟨be, k, none⟩) (Ne.symm hn3) _).drew)
        have BZ := Lib.hid (BA.out.trans (tz.below BA.out.size fun q hq e => by have := HBE.out; have := HBS.out; have := B3.out.size; omega))
        have RZ := Lib.hid (RT.out.turn tz (by omega))
        rw [← hwz]
        clear tz hwz z0 z1 z2 z3 z4 z5 ec ef sc sf k0 k1 k2 k3 k4 k5 k6 k7 LA EA SA BA hp1 hp2 hp3 hp4 hp5 hp6 hp7 hp8 hp9 hn1 hn2 hn3
        obtain ⟨tb, htb⟩ : ∃ z, z = wr.heap.size := ⟨_, rfl⟩
        rw [← htb] at RZ ⊢
        clear htb
        go_loopw [14] (fun ix wq => ∃ m : Nat, m ≤ i ∧ ix = .int .i64 m ∧ Hid (Below wz.heap.size wz wq)) (fun ix _ => i - (intOf ix).toNat)
        case atStart => exact ⟨0, by omega, rfl, Lib.hid (Below.refl _ _)⟩
        case round =>
          obtain ⟨m, hm2, rfl, HZB⟩ := hrel
          by_cases hlt2 : m < i
          · have LQ := Own.below LZ.out HZB.out
            obtain ⟨g', ⟨r', ov'⟩, hg', hx', hc'⟩ := own_log LQ (i := m) (by rw [List.length_zip, HOL.out, Nat.min_self, ← HNL.out]; omega)
            injection hg' with hg'
            injection hg' with hg'
            subst hg'
            have hxr' : rs[m]? = some r' := (List.getElem?_zip_eq_some.1 hx').1
            have hne := HQ.out r' (List.mem_of_getElem? (i := m) (by rw [List.getElem?_take, if_pos hlt2]; exact hxr'))
            obtain ⟨y2, hy2⟩ : ∃ z, z = r'.start := ⟨_, rfl⟩
            obtain ⟨y3, hy3⟩ : ∃ z, z = r'.fin := ⟨_, rfl⟩
            unfold logC txnC at hc'
            have k2 := hc' 2 (by omega)
            have k3 := hc' 3 (by omega)
            simp only [List.getElem?_cons_zero, List.getElem?_cons_succ, Nat.add_zero] at k2 k3
            have z2 := (RZ.out.below HZB.out).cell 2
            simp only [List.getElem?_cons_zero, List.getElem?_cons_succ] at z2
            rw [← hy2] at k2 hne
            rw [← hy3] at k3 hne
            have ne1 : (y2 == x2) = false := by simpa using hne.1
            have ne2 : (y3 == x2) = false := by simpa using hne.2
            have hm0 : (0 : Int) ≤ (m : Int) := by omega
            have hm1 : (m : Int) < (nl : Int) := by omega
            clear hc' LQ hne hy2 hy3 hx' hxr'
            go_wp2_with fail
            go_region
            go_wp2_with fail
            exact ⟨⟨m + 1, by omega, rfl, Lib.hid HZB.out.drew⟩, by show i - ((m : Int) + 1).toNat < i - (m : Int).toNat; omega⟩
          · obtain rfl : m = i := by omega
            have LF := Lib.hid (Own.below LZ.out HZB.out)
            have EF := Lib.hid (EZ.out.below HZB.out)
            have SF := Lib.hid (SZ.out.below HZB.out)
            have BF := Lib.hid (BZ.out.trans (HZB.out.mono BZ.out.size))
            go_wp2_with fail
            exact ⟨⟨m + 1, by omega, by rw [T1.out], rfl, LF, EF, SF, BF⟩, by show nl - ((m : Int) + 1).toNat < nl - (m : Int).toNat; omega⟩
      · obtain rfl : i = nl := by omega
        go_wp2_with fail
        go_ret
        exact ⟨rfl, HB.out⟩
  · obtain ⟨ee, hee⟩ : ∃ z, z = newE a f := ⟨_, rfl⟩
    have HEE := Lib.hid hee
    have HNE := Lib.hid hne
    have h5 : ee ≠ 0 := by rw [hee]; exact hne
    have h6 : a < 1 ∨ 64 < a ∨ f < 0 ∨ 4 < f := by
      refine Classical.byContradiction fun hh => hne ?_
      unfold newE
      rw [if_neg (by omega), if_neg (by omega)]
    have h7 : (ee == 0) = false := by simpa using h5
    clear hne hee
    go_wp2_with fail
    refine (emit_no a f A2 ln c2 w2 HNE.out).mono ?_
    rintro e w3 ⟨he, rfl⟩
    rw [← HEE.out] at he
    subst he
    clear HEE
    by_cases c1 : a < 1
    · go_wp2_with fail
      all_goals (go_ret; exact ⟨rfl, B2.out⟩)
    by_cases c2 : 64 < a
    · go_wp2_with fail
      all_goals (go_ret; exact ⟨rfl, B2.out⟩)
    by_cases c3 : f < 0
    · go_wp2_with fail
      all_goals (go_ret; exact ⟨rfl, B2.out⟩)
    have c4 : 4 < f := by omega
    go_wp2_with fail
    all_goals (go_ret; exact ⟨rfl, B2.out⟩)

end Go.Proofs.Ytfodagidmdbmlaa
