/- The document's Keys. -/
import Derived.Test.YtkbnfnfjmofcmaaRc
import Derived.Deep.CutRange
import Derived.Deep.CutBlock
import Derived.Sort.Walk0
namespace Go.Proofs.Ytkbnfnfjmofcmaa
set_option linter.unusedVariables false
set_option linter.unusedSimpArgs false
open Go.RowKit

/-- The keys met, rising. -/
structure KeysR (all : List RV) (ks : List ByteArray) : Prop where
  up : ks.Pairwise klt
  mem : ∀ k, k ∈ ks ↔ ∃ x ∈ all, x.key = k
theorem klt_less (a b : ByteArray) : Op.bytesLess a.toList b.toList = decide (a.data.toList < b.data.toList) := by
  rw [ByteArray.toList_eq, ByteArray.toList_eq]
  exact bytesLess_eq _ _
theorem less_yes {a b : ByteArray} (h : Op.bytesLess a.toList b.toList = true) : klt a b := by rw [klt_less] at h; exact of_decide_eq_true (p := a.data.toList < b.data.toList) h
theorem less_no {a b : ByteArray} (h : Op.bytesLess a.toList b.toList = false) : ¬ klt a b := by rw [klt_less] at h; exact of_decide_eq_false (p := a.data.toList < b.data.toList) h
theorem klt_total {a b : ByteArray} (h : ¬ klt a b) (hne : a ≠ b) : klt b a := by
  by_cases hlt : klt b a
  · exact hlt
  · refine absurd ?_ hne
    have e : a.data.toList = b.data.toList := List.le_antisymm (List.not_lt.1 hlt) (List.not_lt.1 h)
    obtain ⟨⟨x⟩⟩ := a
    obtain ⟨⟨y⟩⟩ := b
    simpa using e
theorem own_set {w : World} {base g : Nat} {e : TypeId} {n cap : Nat} {ks : List ByteArray} (h : Own w base e 1 strC (.slice (some ⟨g, 0, none⟩) n cap) ks) {j : Nat} (hj : j < ks.length) (k : ByteArray) : Own (w.setCell ⟨g, j, none⟩ (.string k)) base e 1 strC (.slice (some ⟨g, 0, none⟩) n cap) (ks.set j k) := by
  obtain ⟨q1, q2⟩ := h
  rcases q2 with ⟨e, q2⟩ | ⟨g', cap', cur, e1, hb, hh, hl, hm, hc, ht⟩
  · cases e
  · injection e1 with e1 e2 e3
    injection e1 with e1
    injection e1 with e1
    subst e1 e2 e3
    have hs := flat_set (f := strC) (n := 1) (fun _ => rfl) ks j k hj
    simp only [Nat.mul_one] at hs
    have e : (ks.flatMap strC).set j (.string k) = (ks.set j k).flatMap strC := hs
    have hlen : (ks.set j k).length = ks.length := List.length_set
    unfold Own
    rw [hlen]
    refine ⟨by rw [← e, List.length_set]; exact q1, .inr ⟨g, cap, cur.setIfInBounds j (.string k), rfl, hb, heap_setCell_same w g j cur _ _ hh, hl, hm, by simpa using hc, ?_⟩⟩
    rw [← e, ← ht]
    simp [List.take_set]
theorem own_frozen {w : World} {base g : Nat} {e : TypeId} {n cap : Nat} {ks : List ByteArray} (h : Own w base e 1 strC (.slice (some ⟨g, 0, none⟩) n cap) ks) (j : Nat) : w.frozen? ⟨g, j, none⟩ = false := by
  rcases h.cases with ⟨e, -⟩ | ⟨g', cap', rest, e1, h2, h3, h4, h5⟩
  · cases e
  · injection e1 with e1 e2 e3
    injection e1 with e1
    injection e1 with e1
    subst e1
    exact h5.frozen j
theorem cell_set {α : Type} {ks : List α} {x e : α} {t : Nat} (ht : t + 1 ≤ ks.length) (hx : ks[t]? = some x) : (ks.take (t + 1) ++ e :: ks.drop (t + 1)).set (t + 1) x = ks.take t ++ x :: ks.drop t := by
  obtain ⟨hl, rfl⟩ := List.getElem?_eq_some_iff.1 hx
  rw [List.set_append_right _ _ (by rw [List.length_take]; omega), List.length_take, Nat.min_eq_left ht, Nat.sub_self, List.set_cons_zero]
  have e1 : ks.take (t + 1) = ks.take t ++ [ks[t]] := (List.take_append_getElem hl).symm
  have e2 : ks.drop t = ks[t] :: ks.drop (t + 1) := List.drop_eq_getElem_cons hl
  rw [e2, e1, List.append_assoc, List.singleton_append]
theorem cell_put {α : Type} {ks : List α} {x e : α} {t : Nat} (ht : t ≤ ks.length) : (ks.take t ++ e :: ks.drop t).set t x = ks.take t ++ x :: ks.drop t := by
  rw [List.set_append_right _ _ (by rw [List.length_take]; omega), List.length_take, Nat.min_eq_left ht, Nat.sub_self, List.set_cons_zero]
/-- Where the key goes. -/
theorem KeysR.put {all : List RV} {ks : List ByteArray} {x : RV} {j a : Nat} (h : KeysR (all.take j) ks) (hx : all[j]? = some x) (ha : a ≤ ks.length) (h1 : ∀ i, i < a → ∀ y, ks[i]? = some y → klt y x.key) (h2 : ∀ y, ks[a]? = some y → ¬ klt y x.key) (h3 : ∀ y, ks[a]? = some y → y ≠ x.key) :
    KeysR (all.take (j + 1)) (ks.take a ++ x.key :: ks.drop a) := by
  have hd : ∀ z ∈ ks.drop a, klt x.key z := by
    cases e : ks.drop a with
    | nil => simp
    | cons y l =>
      have hy : ks[a]? = some y := by
        have : (ks.drop a)[0]? = some y := by rw [e]; rfl
        simpa using this
      have hyx := klt_total (h2 y hy) (h3 y hy)
      have hp : (y :: l).Pairwise klt := by rw [← e]; exact h.up.sublist (List.drop_sublist _ _)
      intro z hz
      rcases List.mem_cons.1 hz with rfl | hz
      · exact hyx
      · exact klt_trans hyx ((List.pairwise_cons.1 hp).1 z hz)
  have ht : ∀ z ∈ ks.take a, klt z x.key := by
    intro z hz
    obtain ⟨i, hi, rfl⟩ := List.mem_iff_getElem.1 hz
    rw [List.length_take] at hi
    exact h1 i (by omega) _ (by rw [List.getElem_take]; exact List.getElem?_eq_getElem _)
  constructor
  · rw [List.pairwise_append]
    have hp := h.up
    rw [← List.take_append_drop a ks, List.pairwise_append] at hp
    refine ⟨hp.1, List.pairwise_cons.2 ⟨hd, hp.2.1⟩, fun y hy z hz => ?_⟩
    rcases List.mem_cons.1 hz with rfl | hz
    · exact ht y hy
    · exact hp.2.2 y hy z hz
  · intro k
    rw [List.mem_append, List.mem_cons, List.take_add_one, hx]
    have hm := h.mem k
    rw [← List.take_append_drop a ks, List.mem_append] at hm
    simp only [Option.toList_some, List.mem_append, List.mem_singleton]
    constructor
    · rintro (h | rfl | h)
      · obtain ⟨y, hy, e⟩ := hm.1 (.inl h); exact ⟨y, .inl hy, e⟩
      · exact ⟨x, .inr rfl, rfl⟩
      · obtain ⟨y, hy, e⟩ := hm.1 (.inr h); exact ⟨y, .inl hy, e⟩
    · rintro ⟨y, hy | rfl, e⟩
      · rcases hm.2 ⟨y, hy, e⟩ with h | h
        · exact .inl h
        · exact .inr (.inr h)
      · exact .inr (.inl e.symm)
theorem KeysR.same {all : List RV} {ks : List ByteArray} {x : RV} {j : Nat} (h : KeysR (all.take j) ks) (hx : all[j]? = some x) (hm : x.key ∈ ks) : KeysR (all.take (j + 1)) ks := by
  refine ⟨h.up, fun k => ?_⟩
  rw [h.mem, List.take_add_one, hx]
  simp only [Option.toList_some, List.mem_append, List.mem_singleton]
  constructor
  · rintro ⟨y, hy, e⟩; exact ⟨y, .inl hy, e⟩
  · rintro ⟨y, hy | rfl, e⟩
    · exact ⟨y, hy, e⟩
    · obtain ⟨z, hz, e2⟩ := (h.mem _).1 hm
      exact ⟨z, hz, e2.trans e⟩
theorem str_one (k : ByteArray) : ∀ u ∈ strC k, u.oneCell' = true := by
  intro u hu
  simp [strC] at hu
  subst hu
  rfl
set_option maxRecDepth 100000 in
set_option maxHeartbeats 4000000 in
theorem rkeys_any (G : Nat → Prop) (r N : Nat) (all : List RV) (w : World) (h : RAt G w r N all) (hN : N < 2300000000000) (hs : ∀ x ∈ all, x.key.size ≤ maxLen) :
    Calls Try.prog 20 #[.pointer (some ⟨r, 0, none⟩)] w fun e w' => ∃ v ks, e = .returned v ∧ KeysR all ks ∧ Own w' w.heap.size 9 1 strC v ks ∧ Below w.heap.size w w' ∧ ks.length ≤ N := by
  have H0 := Lib.hid h
  clear h
  obtain ⟨A, cap, m1, m2, m3, m4, m5, m6⟩ := H0.out
  obtain ⟨n, hn⟩ : ∃ n, n = all.length := ⟨_, rfl⟩
  rw [← hn] at m1 m2 m4 m6
  have HN := Lib.hid hn
  have M1 := Lib.hid m1
  have M2 := Lib.hid m2
  have M4 := Lib.hid m4
  clear m1 m2 m4 hn
  go_enter Try.func20, Try.ntmps20
  go_wp2_with fail
  go_loopw [3, 4] (fun o i wr => ∃ (j : Nat) (B : Option Addr) (c : Nat) (ks : List ByteArray), i = .int .i64 j ∧ o = .slice B ks.length c ∧ j ≤ n ∧ ks.length ≤ j ∧ Hid (KeysR (all.take j) ks) ∧ Hid (Own wr w.heap.size 9 1 strC (.slice B ks.length c) ks) ∧ Hid (Below w.heap.size w wr)) (fun _ i _ => n - (intOf i).toNat)
  case atStart => exact ⟨0, none, 0, [], rfl, rfl, by omega, by simp, ⟨List.Pairwise.nil, fun k => by simp⟩, Own.nil _ _ _ _ _, Below.refl _ _⟩
  case round =>
    obtain ⟨j, B, c, ks, rfl, rfl, hj, hl, HK, HO, HW⟩ := hrel
    have q0 := (M1.out.below HW.out).cell 0
    simp only [List.getElem?_cons_zero] at q0
    by_cases hlt : j < n
    · obtain ⟨g, x, rfl, hx, y0, y1, y2, y3, y4⟩ := own_rv (Own.below M2.out HW.out) (i := j) (by rw [← HN.out]; exact hlt)
      have HX := Lib.hid hx
      clear hx
      obtain ⟨nk, hnk⟩ : ∃ m, m = ks.length := ⟨_, rfl⟩
      rw [← hnk] at hl HO ⊢
      have HNK := Lib.hid hnk
      clear hnk
      go_upto_block 2 with fail
      go_cut [6] from 25 to 36 (fun i wc => ∃ a : Nat, i = .int .i64 a ∧ a ≤ nk ∧ Hid (∀ i, i < a → ∀ y, ks[i]? = some y → klt y x.key) ∧ Hid (∀ y, ks[a]? = some y → ¬ klt y x.key) ∧ wr = wc)
      case first =>
        go_wp2_with fail
        go_loopw [6] (fun i wr1 => ∃ a : Nat, i = .int .i64 a ∧ a ≤ nk ∧ Hid (∀ i, i < a → ∀ y, ks[i]? = some y → klt y x.key) ∧ wr = wr1) (fun i _ => nk - (intOf i).toNat)
        case atStart => exact ⟨0, rfl, by omega, Lib.hid fun i hi => absurd hi (Nat.not_lt_zero _), rfl⟩
        case round =>
          obtain ⟨a, rfl, ha, HA, rfl⟩ := hrel
          by_cases hla : a < nk
          · obtain ⟨g2, y, rfl, hy, hmem, z0⟩ := own_str HO.out (j := a) (by rw [← HNK.out]; exact hla)
            have HY := Lib.hid hy
            clear hy hmem
            cases hless : Op.bytesLess y.toList x.key.toList
            · have HNO := Lib.hid (show ∀ z, ks[a]? = some z → ¬ klt z x.key from fun z hz => by rw [HY.out] at hz; injection hz with hz; rw [← hz]; exact less_no hless)
              go_wp2_with fail
              go_meet
              case rel => exact ⟨a, rfl, ha, HA, HNO, by simp⟩
            · have HYES := Lib.hid (show ∀ i, i < a + 1 → ∀ z, ks[i]? = some z → klt z x.key from fun i hi z hz => by
                rcases Nat.lt_succ_iff_lt_or_eq.1 hi with h | rfl
                · exact HA.out i h z hz
                · rw [HY.out] at hz; injection hz with hz; rw [← hz]; exact less_yes hless)
              go_wp2_with fail
              exact ⟨⟨a + 1, rfl, by omega, HYES, by simp⟩, by show nk - ((a : Int) + 1).toNat < nk - (a : Int).toNat; omega⟩
          · obtain rfl : a = nk := by omega
            go_wp2_with fail
            go_meet
            case rel => exact ⟨a, rfl, ha, HA, Lib.hid (fun y hy => by rw [List.getElem?_eq_none (by rw [HNK.out]; exact Nat.le_refl _)] at hy; cases hy), by simp⟩
      case rest =>
        obtain ⟨a, rfl, ha, HA, HNO, rfl⟩ := hcut
        go_step
        go_step
        go_cut [] from 39 to 50 (fun wc => Hid (∀ z, ks[a]? = some z → z ≠ x.key) ∧ wr = wc)
        case first =>
          by_cases hla : a < nk
          · obtain ⟨g2, y, rfl, hy, hmem, z0⟩ := own_str HO.out (j := a) (by rw [← HNK.out]; exact hla)
            cases heq : (y.toList == x.key.toList)
            · have HNE := Lib.hid (show ∀ z, ks[a]? = some z → z ≠ x.key from fun z hz e => by rw [hy] at hz; injection hz with hz; rw [hz, e] at heq; simp at heq)
              clear hy hmem
              go_wp2_with fail
              go_meet
              case rel => exact ⟨HNE, by simp⟩
            · have hyx : y = x.key := bytes_eq (by simpa using heq)
              have HM := Lib.hid (show x.key ∈ ks by rw [← hyx]; exact hmem)
              clear hy hmem hyx
              go_wp2_with fail
              exact ⟨⟨j + 1, _, c, ks, rfl, by rw [← HNK.out], by omega, by rw [← HNK.out]; omega, Lib.hid (HK.out.same HX.out HM.out), by rw [← HNK.out]; exact HO, HW⟩, by show n - ((j : Int) + 1).toNat < n - (j : Int).toNat; omega⟩
          · obtain rfl : a = nk := by omega
            have HNE := Lib.hid (show ∀ z, ks[a]? = some z → z ≠ x.key from fun z hz e => by rw [List.getElem?_eq_none (by rw [HNK.out]; exact Nat.le_refl _)] at hz; cases hz)
            go_wp2_with fail
            go_meet
            case rel => exact ⟨HNE, by simp⟩
        case rest =>
          obtain ⟨HNE, rfl⟩ := hcut
          have HSL := Lib.hid (show ks.length + 1 ≤ maxLen ∧ (ks.length + 1) * 16 ≤ 140737488355328 by rw [← HNK.out]; unfold maxLen; omega)
          have hox := HO.out
          rw [HNK.out] at hox
          have HOA := Lib.hid (hox.alloc (.cells #[.string ⟨#[]⟩] 9))
          have RBA := Lib.hid (RowAt.new wr 9 (strC ⟨#[]⟩))
          have TA := Lib.hid ((HW.out).alloc HW.out.size (.cells #[.string ⟨#[]⟩] 9))
          have hz := HW.out.size
          clear hox
          go_wp2_with (first | (refine push_list strC 9 41 9 (.string ⟨#[]⟩) 1 16 Try.underlying41 (by kernel_rfl) rfl (by decide) (fun _ => rfl) str_one _ _ (by rfl) (by rfl) w.heap.size (.slice B ks.length c) ks ⟨#[]⟩ (by rw [← HNK.out]; rfl) HOA.out wr.heap.size 1 (by rfl) RBA.out HSL.out.1 HSL.out.2 (by simp; omega) (wr.heap.size + 1) (by simp) ?_; intro g5 cap5 w3 o3 g3 l3 l4; have O3 := Lib.hid o3; have T3 := Lib.hid (((Turn.of_below TA.out (fun _ => False)).grown g3 fun i hi => .inr (HOA.out.base i hi).1).below (Nat.le_refl _) fun _ _ h => h); have L4 := Lib.hid l4; clear o3 g3 l3 l4))
          have HKL := Lib.hid (show ks.length ≤ j by rw [← HNK.out]; exact hl)
          have hkl := HKL.out
          have han : a ≤ ks.length := by rw [← HNK.out]; exact ha
          go_loopw [7] (fun i wr1 => ∃ (t : Nat) (e : ByteArray), i = .int .i64 t ∧ a ≤ t ∧ t ≤ ks.length ∧ Hid (Own wr1 w.heap.size 9 1 strC (.slice (some ⟨g5, 0, none⟩) (ks.length + 1) cap5) (ks.take t ++ e :: ks.drop t)) ∧ Hid (Below w.heap.size w wr1)) (fun i _ => (intOf i).toNat)
          case atStart => exact ⟨ks.length, ⟨#[]⟩, (by rw [wrap64_in (by omega) (by omega)]), by omega, by omega, by rw [List.take_length, List.drop_length]; exact O3, T3⟩
          case round =>
            clear O3 T3
            obtain ⟨t, e, rfl, hat, htn, HO4, HW4⟩ := hrel
            have hlen : (ks.take t ++ e :: ks.drop t).length = ks.length + 1 := by simp; omega
            have fz := own_frozen HO4.out
            obtain ⟨g6, y, e6, -, -, z1⟩ := own_str HO4.out (j := t) (by omega)
            obtain rfl : g5 = g6 := by injection e6 with e6; injection e6
            have HLN := Lib.hid hlen
            clear hlen e6
            by_cases hgt : a < t
            · obtain ⟨t, rfl⟩ : ∃ t', t = t' + 1 := ⟨t - 1, by omega⟩
              obtain ⟨g6, y2, e6, hy2, -, z2⟩ := own_str HO4.out (j := t) (by rw [HLN.out]; omega)
              obtain rfl : g5 = g6 := by injection e6 with e6; injection e6
              have hk2 : ks[t]? = some y2 := by
                have h9 : t < (ks.take (t + 1)).length := by rw [List.length_take]; omega
                rw [List.getElem?_append_left h9, List.getElem?_take, if_pos (by omega)] at hy2
                exact hy2
              have O6 := own_set HO4.out (j := t + 1) (by rw [HLN.out]; omega) y2
              rw [cell_set htn hk2] at O6
              have HO6 := Lib.hid O6
              have hw1 : IntKind.i64.wrap ((t : Int) + 1 - 1) = (t : Int) := by rw [wrap_in (by omega) (by omega)]; omega
              have HW6 := Lib.hid (HW4.out.setCell (p := ⟨g5, t + 1, none⟩) (HO4.out.base g5 rfl).1 (.string y2))
              have hz1 : (t : Int) < (ks.length : Int) + 1 := by omega
              have hz2 : (t : Int) + 1 < (ks.length : Int) + 1 := by omega
              clear hy2 hk2 O6 e6
              go_wp2_with fail
              exact ⟨⟨t, y2, rfl, by omega, by omega, HO6, HW6⟩, by show (t : Int).toNat < ((t : Int) + 1).toNat; omega⟩
            · obtain rfl : a = t := by omega
              have O6 := own_set HO4.out (j := a) (by rw [HLN.out]; omega) x.key
              rw [cell_put htn] at O6
              have HO6 := Lib.hid O6
              have HW6 := Lib.hid (HW4.out.setCell (p := ⟨g5, a, none⟩) (HO4.out.base g5 rfl).1 (.string x.key))
              have hlen2 : (ks.take a ++ x.key :: ks.drop a).length = ks.length + 1 := by simp; omega
              have HLN2 := Lib.hid hlen2
              clear O6 hlen2
              go_wp2_with fail
              exact ⟨⟨j + 1, some ⟨g5, 0, none⟩, cap5, ks.take a ++ x.key :: ks.drop a, rfl, by rw [HLN2.out], by omega, by rw [HLN2.out]; omega, Lib.hid (HK.out.put HX.out han HA.out HNO.out HNE.out), by rw [HLN2.out]; exact HO6, HW6⟩, by show n - ((j : Int) + 1).toNat < n - (j : Int).toNat; omega⟩
    · obtain rfl : j = n := by omega
      have hall : all.take j = all := List.take_of_length_le (by rw [← HN.out]; exact Nat.le_refl _)
      rw [hall] at HK
      go_wp2_with fail
      go_ret
      exact ⟨_, ks, rfl, HK.out, HO.out, HW.out, by omega⟩

end Go.Proofs.Ytkbnfnfjmofcmaa
