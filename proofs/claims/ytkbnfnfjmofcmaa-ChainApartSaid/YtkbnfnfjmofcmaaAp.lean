/- ChainApart: the walk. -/
import Derived.Test.YtkbnfnfjmofcmaaTw
import Derived.Test.YtkbnfnfjmofcmaaSe
import Derived.Deep.CutRange
namespace Go.Proofs.Ytkbnfnfjmofcmaa
set_option linter.unusedVariables false
set_option linter.unusedSimpArgs false
open Go.RowKit
attribute [local go_sem high] eqVer

/-- The store of both keys and that of the one: they agree at a, and hold nothing else but b. -/
structure Alike (a b : ByteArray) (s1 s2 : Store) : Prop where
  g1 : Good s1
  g2 : Good s2
  at_ : s1.2 a = s2.2 a
  only : ∀ k, k ≠ a → k ≠ b → s1.2 k = []
theorem Alike.playB {a b : ByteArray} {s1 s2 : Store} (h : Alike a b s1 s2) (hab : a ≠ b) (v : Ver) : Alike a b (play1 s1 b v) s2 := by
  refine ⟨h.g1.play _ _, h.g2, ?_, fun k ha hb => ?_⟩
  · rw [← h.at_]
    unfold play1
    split
    · show upd _ _ _ a = _
      unfold upd
      rw [if_neg hab]
    · rfl
  · unfold play1
    split
    · show upd _ _ _ k = _
      unfold upd
      rw [if_neg hb]
      exact h.only k ha hb
    · exact h.only k ha hb
theorem Alike.playA {a b : ByteArray} {s1 s2 : Store} (h : Alike a b s1 s2) (hab : a ≠ b) (v : Ver) : Alike a b (play1 s1 a v) (play1 s2 a v) := by
  refine ⟨h.g1.play _ _, h.g2.play _ _, ?_, fun k ha hb => ?_⟩
  · unfold play1
    rw [h.at_]
    split
    · show upd _ _ _ a = upd _ _ _ a
      unfold upd
      rw [if_pos rfl, if_pos rfl]
    · exact h.at_
  · unfold play1
    split
    · show upd _ _ _ k = _
      unfold upd
      rw [if_neg ha]
      exact h.only k ha hb
    · exact h.only k ha hb
theorem Alike.prune {a b : ByteArray} {s1 s2 : Store} (h : Alike a b s1 s2) {c1 c2 : Nat} (t : Int) (h1 : Good (c1, prnS t s1.2)) (h2 : Good (c2, prnS t s2.2)) : Alike a b (c1, prnS t s1.2) (c2, prnS t s2.2) := by
  refine ⟨h1, h2, ?_, fun k ha hb => ?_⟩
  · show prn t (s1.2 a) = prn t (s2.2 a)
    rw [h.at_]
  · show prn t (s1.2 k) = []
    rw [h.only k ha hb]
    rfl
theorem Alike.count {a b : ByteArray} {s1 s2 : Store} (h : Alike a b s1 s2) (hab : a ≠ b) : s1.1 = (s1.2 a).length + (s1.2 b).length := by
  have hne : ∀ k, s1.2 k ≠ [] → k = a ∨ k = b := fun k hk => by
    rcases Classical.em (k = a) with h1 | h1
    · exact .inl h1
    · rcases Classical.em (k = b) with h2 | h2
      · exact .inr h2
      · exact absurd (h.only k h1 h2) hk
  by_cases ha : s1.2 a = [] <;> by_cases hb : s1.2 b = []
  · rw [ha, hb, ← h.g1.total.unique (ks := []) List.nodup_nil fun k => ⟨fun hk => by rcases hne k hk with rfl | rfl; exact absurd ha hk; exact absurd hb hk, fun hk => by cases hk⟩]
    rfl
  · rw [ha, ← h.g1.total.unique (ks := [b]) (by simp) fun k => ⟨fun hk => by rcases hne k hk with rfl | rfl; exact absurd ha hk; simp, fun hk => by simp at hk; subst hk; exact hb⟩]
    simp
  · rw [hb, ← h.g1.total.unique (ks := [a]) (by simp) fun k => ⟨fun hk => by rcases hne k hk with rfl | rfl; simp; exact absurd hb hk, fun hk => by simp at hk; subst hk; exact ha⟩]
    simp
  · rw [← h.g1.total.unique (ks := [a, b]) (by simp [hab]) fun k => ⟨fun hk => by rcases hne k hk with rfl | rfl <;> simp, fun hk => by simp at hk; rcases hk with rfl | rfl; exact ha; exact hb⟩]
    simp
set_option maxHeartbeats 1000000 in
theorem apart_same (A : Option Addr) (n cap : Nat) (a : ByteArray) (t : Int) (w : World) :
    Calls Try.prog 4 #[.slice A n cap, .string a, .string a, .int .i64 t] w fun e w' => e = .returned (.bool true) ∧ Below w.heap.size w w' := by
  have hq : (a.toList == a.toList) = true := by simp
  go_enter Try.func4, Try.ntmps4
  go_wp2_with fail
  refine (anchor_any w).mono ?_
  rintro e w1 ⟨rfl, b1⟩
  have B1 := Lib.hid b1
  clear b1
  go_wp2_with fail
  refine (new_any w1).mono ?_
  rintro e w2 ⟨p1, rfl, s2, b2⟩
  clear s2
  go_wp2_with fail
  refine (new_any w2).mono ?_
  rintro e w3 ⟨p2, rfl, s3, b3⟩
  have B3 := Lib.hid (B1.out.trans ((b2.trans (b3.mono b2.size)).mono B1.out.size))
  clear s3 b2 b3
  go_wp2_with fail
  go_ret
  exact ⟨rfl, B3.out⟩
set_option maxRecDepth 100000 in
set_option maxHeartbeats 6400000 in
theorem apart_walk (A : Option Addr) (n cap : Nat) (xs : List Op) (a b : ByteArray) (t : Int) (w : World) (hn : xs.length = n) (hm : n < 2900000000000) (hx : ∀ o ∈ xs, o.Fits) (ha : a.size ≤ maxLen) (hb : b.size ≤ maxLen) (h : SliceRd w A 7 Op.cells xs) (hab : a ≠ b) :
    Calls Try.prog 4 #[.slice A n cap, .string a, .string b, .int .i64 t] w fun e w' => e = .returned (.bool true) ∧ Below w.heap.size w w' := by
  have HX := Lib.hid hx
  have HN := Lib.hid hn
  have HR := Lib.hid h
  have HA := Lib.hid ha
  have HB := Lib.hid hb
  have HAB := Lib.hid hab
  have hq1 : (a.toList == b.toList) = false := by
    rw [beq_eq_false_iff_ne]
    exact fun e => hab (bytes_eq e)
  have hq2 : (b.toList == a.toList) = false := by
    rw [beq_eq_false_iff_ne]
    exact fun e => hab (bytes_eq e).symm
  have hq3 : (a.toList == a.toList) = true := by simp
  clear hx hn h ha hb hab
  go_enter Try.func4, Try.ntmps4
  go_wp2_with fail
  refine (anchor_any w).mono ?_
  rintro e w1 ⟨rfl, b1⟩
  have B1 := Lib.hid b1
  clear b1
  go_wp2_with fail
  refine (new_any w1).mono ?_
  rintro e w2 ⟨p1, rfl, s2, b2⟩
  go_wp2_with fail
  refine (new_any w2).mono ?_
  rintro e w3 ⟨p2, rfl, s3, b3⟩
  have T3 := Lib.hid (show Two w1.heap.size w3 p1 p2 0 0 (0, fun _ => []) (0, fun _ => []) from ⟨_, _, s2.below b3, s3, fun i h1 h2 => by omega, fun i h1 => h1.1, fun i h2 => Nat.le_trans b2.size h2.1⟩)
  have B3 := Lib.hid (b2.trans (b3.mono b2.size))
  clear s2 b2 s3 b3
  go_wp2_with fail
  obtain ⟨h2, hh2⟩ : ∃ h, h = n / 2 := ⟨_, rfl⟩
  have HH2 := Lib.hid hh2
  clear hh2
  go_loopw [34] (fun i wr => ∃ (k : Nat) (s1 s2 : Store), i = .int .i64 k ∧ k ≤ n ∧ Hid (Alike a b s1 s2) ∧ Hid (Two w1.heap.size wr p1 p2 k k s1 s2) ∧ Hid (Below w1.heap.size w1 wr)) (fun i _ => n - (intOf i).toNat)
  case atStart => exact ⟨0, _, _, rfl, by omega, ⟨Good.nil, Good.nil, rfl, fun _ _ _ => rfl⟩, T3.out, B3.out⟩
  case round =>
    clear T3 B3
    obtain ⟨k, s1, s2, rfl, hk, HAL, HT, HB9⟩ := hrel
    by_cases hlt : k < n
    · obtain ⟨x, hx⟩ : ∃ x, xs[k]? = some x := ⟨_, List.getElem?_eq_getElem (by rw [HN.out]; exact hlt)⟩
      obtain ⟨bb, off, rfl, hb, hc⟩ := ((HR.out.below B1.out).below HB9.out).at hx
      have FX := Lib.hid (HX.out x (List.mem_of_getElem? hx))
      obtain ⟨kd, tm, ky, ⟨vc, vw, vf, vv⟩⟩ := x
      have c0 := hc 0 (by omega)
      have c1 := hc 1 (by omega)
      have c2 := hc 2 (by omega)
      have c3 := hc 3 (by omega)
      have c4 := hc 4 (by omega)
      have c5 := hc 5 (by omega)
      have c6 := hc 6 (by omega)
      simp only [Op.cells, List.getElem?_cons_zero, List.getElem?_cons_succ, Nat.add_zero] at c0 c1 c2 c3 c4 c5 c6
      clear hc hx hb
      have hba := (Below.refl wr.heap.size wr).alloc (Nat.le_refl _) (.cells #[.int .i64 kd, .int .i64 tm, .string ky, .int .i64 vc, .int .i64 vw, .bool vf, .string vv] 35)
      have HTA := Lib.hid (HT.out.below hba)
      have HBA := Lib.hid (HB9.out.trans (hba.mono HB9.out.size))
      clear hba
      by_cases hmod : (tm.tmod 2 == 0) = true
      · go_wp2_with fail
        refine (install_two w1.heap.size p1 p2 k k s1 s2 b ⟨vc, vw, vf, vv⟩ _ HTA.out HBA.out.size HB.out (by omega)).mono ?_
        rintro e w4 ⟨rfl, t4, b4⟩
        have HAL4 := Lib.hid (HAL.out.playB HAB.out ⟨vc, vw, vf, vv⟩)
        have HT4 := Lib.hid (t4.mono (Nat.le_refl _) (Nat.le_succ k))
        have B4 := Lib.hid (HBA.out.trans b4)
        clear t4 b4 HTA HBA
        by_cases hk2' : k = h2
        · have hk2 := Lib.hid hk2'
          clear hk2'
          have ht : ((k : Int) == (n : Int) / 2) = true := by
            have e1 := hk2.out
            have e2 := HH2.out
            rw [beq_iff_eq]
            omega
          go_wp2_with fail
          refine (prune_two w1.heap.size p1 p2 (k + 1) (k + 1) (play1 s1 b ⟨vc, vw, vf, vv⟩) s2 t _ HT4.out B4.out.size (by omega) HAL4.out.g1).mono ?_
          rintro e w7 ⟨G1, rfl, hG1, g1, t7, b7⟩
          have T7 := Lib.hid t7
          have B7 := Lib.hid (B4.out.trans b7)
          clear t7 b7
          go_wp2_with fail
          refine (prune_two w1.heap.size p2 p1 (k + 1) (k + 1) s2 _ t _ T7.out.swap B7.out.size (by omega) HAL4.out.g2).mono ?_
          rintro e w8 ⟨G2, rfl, hG2, g2, t8, b8⟩
          have T8 := Lib.hid t8.swap
          have B8 := Lib.hid (B7.out.trans b8)
          have A8 := Lib.hid (HAL4.out.prune t g1 g2)
          clear t8 b8
          go_wp2_with fail
          exact ⟨⟨k + 1, _, _, rfl, by omega, A8, T8, B8⟩, by show n - ((k : Int) + 1).toNat < n - (k : Int).toNat; omega⟩
        · have ht : ((k : Int) == (n : Int) / 2) = false := by
            have e2 := HH2.out
            rw [beq_eq_false_iff_ne]
            omega
          go_wp2_with fail
          exact ⟨⟨k + 1, _, _, rfl, by omega, HAL4, HT4, B4⟩, by show n - ((k : Int) + 1).toNat < n - (k : Int).toNat; omega⟩
      · simp only [Bool.not_eq_true] at hmod
        go_wp2_with fail
        obtain ⟨r, hr⟩ : ∃ r, refuse a ⟨vc, vw, vf, vv⟩ (s1.2 a) = r := ⟨_, rfl⟩
        have hr2 : refuse a ⟨vc, vw, vf, vv⟩ (s2.2 a) = r := by rw [← HAL.out.at_]; exact hr
        have HR1 := Lib.hid hr
        have HR2 := Lib.hid hr2
        clear hr hr2
        have hrr : (r == r) = true := by simp
        refine (install_twoC w1.heap.size p1 p2 k k s1 s2 a ⟨vc, vw, vf, vv⟩ wr 35 [.int .i64 kd, .int .i64 tm, .string ky, .int .i64 vc, .int .i64 vw, .bool vf, .string vv] HT.out HB9.out.size HA.out (by omega)).mono ?_
        rintro e w4 ⟨he, t4, b4, r4⟩
        rw [HR1.out] at he
        subst he
        have T4 := Lib.hid t4.swap
        have B4 := Lib.hid (HBA.out.trans b4)
        have d3 := cell4 r4 3
        have d4 := cell4 r4 4
        have d5 := cell4 r4 5
        have d6 := cell4 r4 6
        simp only [List.getElem?_cons_zero, List.getElem?_cons_succ] at d3 d4 d5 d6
        have R4 := Lib.hid r4
        clear r4
        clear t4 b4 HTA HBA
        go_wp2_with fail
        refine (install_two w1.heap.size p2 p1 k (k + 1) s2 _ a ⟨vc, vw, vf, vv⟩ _ T4.out B4.out.size HA.out (by omega)).mono ?_
        rintro e w5 ⟨he, t5, b5⟩
        rw [HR2.out] at he
        subst he
        have HT5 := Lib.hid t5.swap
        have B5 := Lib.hid (B4.out.trans b5)
        have HAL5 := Lib.hid (HAL.out.playA HAB.out ⟨vc, vw, vf, vv⟩)
        clear t5 b5
        by_cases hk2' : k = h2
        · have hk2 := Lib.hid hk2'
          clear hk2'
          have ht : ((k : Int) == (n : Int) / 2) = true := by
            have e1 := hk2.out
            have e2 := HH2.out
            rw [beq_iff_eq]
            omega
          go_wp2_with fail
          refine (prune_two w1.heap.size p1 p2 (k + 1) (k + 1) (play1 s1 a ⟨vc, vw, vf, vv⟩) (play1 s2 a ⟨vc, vw, vf, vv⟩) t _ HT5.out B5.out.size (by omega) HAL5.out.g1).mono ?_
          rintro e w7 ⟨G1, rfl, hG1, g1, t7, b7⟩
          have T7 := Lib.hid t7
          have B7 := Lib.hid (B5.out.trans b7)
          clear t7 b7
          go_wp2_with fail
          refine (prune_two w1.heap.size p2 p1 (k + 1) (k + 1) (play1 s2 a ⟨vc, vw, vf, vv⟩) _ t _ T7.out.swap B7.out.size (by omega) HAL5.out.g2).mono ?_
          rintro e w8 ⟨G2, rfl, hG2, g2, t8, b8⟩
          have T8 := Lib.hid t8.swap
          have B8 := Lib.hid (B7.out.trans b8)
          have A8 := Lib.hid (HAL5.out.prune t g1 g2)
          clear t8 b8
          go_wp2_with fail
          exact ⟨⟨k + 1, _, _, rfl, by omega, A8, T8, B8⟩, by show n - ((k : Int) + 1).toNat < n - (k : Int).toNat; omega⟩
        · have ht : ((k : Int) == (n : Int) / 2) = false := by
            have e2 := HH2.out
            rw [beq_eq_false_iff_ne]
            omega
          go_wp2_with fail
          exact ⟨⟨k + 1, _, _, rfl, by omega, HAL5, HT5, B5⟩, by show n - ((k : Int) + 1).toNat < n - (k : Int).toNat; omega⟩
    · obtain rfl : k = n := by omega
      clear HX HN HR
      go_wp2_with fail
      refine (chain_two w1.heap.size p1 p2 k k s1 s2 a _ HT.out HA.out (by omega)).mono ?_
      rintro e w4 ⟨v1, rfl, o1, b1⟩
      have HT4 := Lib.hid (HT.out.below b1)
      have HB4 := Lib.hid (HB9.out.trans (b1.mono HB9.out.size))
      obtain ⟨l, hl⟩ : ∃ l, l = s1.2 a := ⟨_, rfl⟩
      rw [← hl] at o1
      obtain ⟨A1, cl1, rfl⟩ : ∃ A c, v1 = .slice A l.length c := by
        rcases o1.cases with ⟨rfl, rfl⟩ | ⟨g, cap, rest, rfl, -⟩
        · exact ⟨none, 0, rfl⟩
        · exact ⟨_, _, rfl⟩
      have HL := Lib.hid hl
      have O1 := Lib.hid (Own.mono o1 (Nat.zero_le _))
      clear HT HB9 b1 o1 hl
      go_wp2_with fail
      refine (chain_two w1.heap.size p2 p1 k k s2 s1 a _ HT4.out.swap HA.out (by omega)).mono ?_
      rintro e w5 ⟨v2, rfl, o2, b2⟩
      have HT5 := Lib.hid (HT4.out.below b2)
      have HB5 := Lib.hid (HB4.out.trans (b2.mono HB4.out.size))
      have O15 := Lib.hid (O1.out.below b2)
      rw [← HAL.out.at_, ← HL.out] at o2
      obtain ⟨A2, cl2, rfl⟩ : ∃ A c, v2 = .slice A l.length c := by
        rcases o2.cases with ⟨rfl, rfl⟩ | ⟨g, cap, rest, rfl, -⟩
        · exact ⟨none, 0, rfl⟩
        · exact ⟨_, _, rfl⟩
      have O2 := Lib.hid (Own.mono o2 (Nat.zero_le _))
      clear HT4 HB4 b2 o2 O1
      have hqq : ((l.length : Int) == (l.length : Int)) = true := by simp
      obtain ⟨nl, hnl⟩ : ∃ n, n = l.length := ⟨_, rfl⟩
      have hnlb : nl ≤ k := by
        rw [hnl, HL.out]
        obtain ⟨F1, F2, h1, _⟩ := HT5.out
        obtain ⟨_, _, _, _, _, _, _, _, _, _, _, q⟩ := h1
        exact q a
      rw [← hnl] at hqq ⊢
      have HNL := Lib.hid hnl
      clear hnl
      go_wp2_with fail
      refine (count_two w1.heap.size p1 p2 k k s1 s2 _ HT5.out).mono ?_
      rintro e w6 ⟨rfl, rfl⟩
      go_wp2_with fail
      refine (chain_two w1.heap.size p1 p2 k k s1 s2 b _ HT5.out HB.out (by omega)).mono ?_
      rintro e w7 ⟨v3, rfl, o3, b3⟩
      have HB7 := Lib.hid (HB5.out.trans (b3.mono HB5.out.size))
      have O17 := Lib.hid (O15.out.below b3)
      have O27 := Lib.hid (O2.out.below b3)
      obtain ⟨l3, hl3⟩ : ∃ l, l = s1.2 b := ⟨_, rfl⟩
      rw [← hl3] at o3
      obtain ⟨A3, cl3, rfl⟩ : ∃ A c, v3 = .slice A l3.length c := by
        rcases o3.cases with ⟨rfl, rfl⟩ | ⟨g, cap, rest, rfl, -⟩
        · exact ⟨none, 0, rfl⟩
        · exact ⟨_, _, rfl⟩
      obtain ⟨nl3, hnl3⟩ : ∃ n, n = l3.length := ⟨_, rfl⟩
      have hnl3b : nl3 ≤ k := by
        rw [hnl3, hl3]
        obtain ⟨F1, F2, h1, _⟩ := HT5.out
        obtain ⟨_, _, _, _, _, _, _, _, _, _, _, q⟩ := h1
        exact q b
      have hcnt : s1.1 = nl + nl3 := by rw [HAL.out.count HAB.out, hnl3, hl3, HNL.out, HL.out]
      rw [← hnl3]
      rw [hcnt]
      have hcw : IntKind.i64.wrap ((nl : Int) + (nl3 : Int)) = ((nl + nl3 : Nat) : Int) := by rw [wrap_in (by omega) (by omega)]; omega
      have hcq : (((nl + nl3 : Nat) : Int) == ((nl + nl3 : Nat) : Int)) = true := by simp
      clear hcnt b3 o3 hl3 hnl3 O15 O2 HB5 HT5 HL HAL
      go_wp2_with fail
      go_loopw [99] (fun i wr => ∃ j : Nat, i = .int .i64 j ∧ j ≤ nl ∧ Hid (Below w7.heap.size w7 wr)) (fun i _ => nl - (intOf i).toNat)
      case atStart => exact ⟨0, rfl, by omega, Below.refl _ _⟩
      case round =>
        obtain ⟨j, rfl, hj, HB8⟩ := hrel
        by_cases hlt : j < nl
        · have ho := VOwn.vers (Own.below O17.out HB8.out)
          obtain ⟨g, x, rfl, hx, c0, c1, c2, c3⟩ := ho.cells (i := j) (by rw [← HNL.out]; exact hlt)
          have ho2 := VOwn.vers (Own.below O27.out HB8.out)
          obtain ⟨g2, y, rfl, hy, d0, d1, d2, d3⟩ := ho2.cells (i := j) (by rw [← HNL.out]; exact hlt)
          obtain rfl : x = y := by rw [hx] at hy; injection hy
          have hba := (Below.refl wr.heap.size wr).alloc (Nat.le_refl _) (.cells #[.int .i64 x.commit, .int .i64 x.writer, .bool x.found, .string x.value] 27)
          have HB9 := Lib.hid (HB8.out.trans (hba.mono HB8.out.size))
          have hgl : g2 < wr.heap.size := World.block_lt_of_cell? wr _ d0
          have e0 := (World.cell?_of_block (w := wr) (hba.block g2 hgl)).trans d0
          have e1 := (World.cell?_of_block (w := wr) (hba.block g2 hgl)).trans d1
          have e2 := (World.cell?_of_block (w := wr) (hba.block g2 hgl)).trans d2
          have e3 := (World.cell?_of_block (w := wr) (hba.block g2 hgl)).trans d3
          have hsA : Ver.eqb ⟨x.commit, x.writer, x.found, x.value⟩ ⟨x.commit, x.writer, x.found, x.value⟩ = true := (Ver.eqb_iff _ _).2 rfl
          clear ho ho2 hx hy hba d0 d1 d2 d3 hgl
          go_wp2_with fail
          go_quiet (fail)
          go_wp2_with fail
          exact ⟨⟨j + 1, rfl, by omega, belowN HB9.out _⟩, by show nl - ((j : Int) + 1).toNat < nl - (j : Int).toNat; omega⟩
        · obtain rfl : j = nl := by omega
          go_wp2_with fail
          go_ret
          exact ⟨rfl, B1.out.trans ((HB7.out.trans (HB8.out.mono HB7.out.size)).mono B1.out.size)⟩
theorem apart_any (A : Option Addr) (n cap : Nat) (xs : List Op) (a b : ByteArray) (t : Int) (w : World) (hn : xs.length = n) (hm : n < 2900000000000) (hx : ∀ o ∈ xs, o.Fits) (ha : a.size ≤ maxLen) (hb : b.size ≤ maxLen) (h : SliceRd w A 7 Op.cells xs) :
    Calls Try.prog 4 #[.slice A n cap, .string a, .string b, .int .i64 t] w fun e w' => e = .returned (.bool true) ∧ Below w.heap.size w w' := by
  by_cases hab : a = b
  · subst hab
    exact apart_same A n cap a t w
  · exact apart_walk A n cap xs a b t w hn hm hx ha hb h hab

end Go.Proofs.Ytkbnfnfjmofcmaa
