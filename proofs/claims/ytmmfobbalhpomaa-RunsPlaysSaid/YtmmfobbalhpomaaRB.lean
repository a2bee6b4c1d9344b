/- The document's bytes of a row: as many as the size. -/
import Derived.Test.YtmmfobbalhpomaaKw
import Derived.Test.YtmmfobbalhpomaaMk
namespace Go.Proofs.Ytmmfobbalhpomaa
set_option linter.unusedVariables false
set_option linter.unusedSimpArgs false
open Go.RowKit

def u8C (x : Int) : List Value := [.int .u8 x]
theorem u8_len (x : Int) : (u8C x).length = 1 := rfl
theorem u8_one (x : Int) : ∀ u ∈ u8C x, u.oneCell' = true := by
  intro u hu
  simp [u8C] at hu
  subst hu
  rfl
set_option maxRecDepth 100000 in
set_option maxHeartbeats 4000000 in
theorem form_any (m : Nat) (hm : m ≤ 1099511627776) (w : World) : Calls Try.prog 41 #[.int .i64 m] w fun e w' => ∃ v bs, e = .returned v ∧ Own w' w.heap.size 5 1 u8C v bs ∧ (bs.length : Int) = wireF m ∧ Below w.heap.size w w' := by
  obtain ⟨tg, htg⟩ : ∃ t, t = wireF (m : Int) := ⟨_, rfl⟩
  rw [← htg]
  have HT := Lib.hid htg
  clear htg
  have hz : ¬ ((m : Int) < 0) := by omega
  have hz2 : ¬ (72057594037927935 < (m : Int)) := by omega
  go_enter Try.func41, Try.ntmps41
  go_wp2_with fail
  have O0 := Lib.hid (show Own (w.alloc (.cells #[.int .u8 ((m : Int) % 128)] 5)) w.heap.size 5 1 u8C (.slice (some ⟨w.heap.size, 0, none⟩) 1 1) [(m : Int) % 128] from RowAt.own (RowAt.new w 5 [.int .u8 ((m : Int) % 128)]) (Nat.le_refl _) rfl (by decide))
  have B0 := Lib.hid ((Below.refl w.heap.size w).alloc (Nat.le_refl _) (.cells #[.int .u8 ((m : Int) % 128)] 5))
  have A0 := Lib.hid (show ((1 : Nat) : Int) + (if m / 128 = 0 then 0 else (wireG 7 (m / 128) : Int)) = tg by
    have h8 : wireG 8 m = if m < 128 then 1 else 1 + wireG 7 (m / 128) := rfl
    rw [HT.out, wireF, Int.toNat_natCast, h8]
    by_cases h : m < 128
    · rw [if_pos h, if_pos (by omega)]; omega
    · rw [if_neg h, if_neg (by omega)]; omega)
  clear hz hz2
  go_loopw [0, 3] (fun a out wr => ∃ (k s f g c : Nat) (bs : List Int), a = .int .i64 k ∧ out = .slice (some ⟨g, 0, none⟩) s c ∧ k ≤ m ∧ 1 ≤ s ∧ s + f = 6 ∧ Hid (k < 128 ^ f) ∧ Hid ((s : Int) + (if k = 0 then 0 else (wireG (f + 2) k : Int)) = tg) ∧ Hid (bs.length = s) ∧ Hid (Own wr w.heap.size 5 1 u8C (.slice (some ⟨g, 0, none⟩) s c) bs) ∧ Hid (Below w.heap.size w wr)) (fun a _ _ => (intOf a).toNat)
  case atStart => exact ⟨m / 128, 1, 5, w.heap.size, 1, [(m : Int) % 128], by simp, rfl, Nat.div_le_self _ _, by omega, by omega, Lib.hid (show m / 128 < 34359738368 by omega), A0.out, rfl, O0.out, B0.out⟩
  case round =>
    clear O0 B0 A0
    obtain ⟨k, s, f, g, c, bs, rfl, rfl, hkm, hs1, hsf, HB, HS, HN, HO, HW⟩ := hrel
    by_cases hk : k = 0
    · subst hk
      go_wp2_with fail
      go_ret
      have h1 : (s : Int) = tg := by have := HS.out; simpa using this
      exact ⟨_, rfl, bs, HO.out, by rw [HN.out]; omega, HW.out⟩
    · have hk0 : (0 : Int) < (k : Int) := by omega
      obtain ⟨g', x, e1, hx, hcc, hff, hlt⟩ := Own.at u8_len HO.out (i := s - 1) (by rw [HN.out]; omega)
      injection e1 with e1
      injection e1 with e1
      subst e1
      have q0 := hcc 0 (by omega)
      simp only [u8C, List.getElem?_cons_zero, Nat.add_zero, Nat.mul_one] at q0
      obtain ⟨p, hp⟩ : ∃ p, s = p + 1 := ⟨s - 1, by omega⟩
      subst hp
      rw [Nat.add_sub_cancel] at q0 hx
      have hp0 : (0 : Int) ≤ (p : Int) := by omega
      have hp1 : (p : Int) < ((p : Int) + 1) := by omega
      have hput := Own.put u8_len HO.out (i := p) (by rw [HN.out]; omega) ((x + 128) % 256)
      rw [Nat.mul_one] at hput
      have HOA := Lib.hid (Own.alloc hput (.cells #[.int .u8 ((k : Int) % 128)] 5))
      have RBA := Lib.hid (RowAt.new' (wset wr g p (u8C ((x + 128) % 256))) wr.heap.size 5 [.int .u8 ((k : Int) % 128)] (by simp [wset, u8C]))
      have hbw := (HW.out.setCell (p := ⟨g, p, none⟩) (by have := (Own.base HO.out g rfl).1; exact this) (.int .u8 ((x + 128) % 256))).alloc (by have := HW.out.size; simp; omega) (.cells #[.int .u8 ((k : Int) % 128)] 5)
      have HWA := Lib.hid hbw
      have hlen2 : (bs.set p ((x + 128) % 256)).length = p + 1 := by rw [List.length_set, HN.out]
      have HLN := Lib.hid hlen2
      have HSL := Lib.hid (show (bs.set p ((x + 128) % 256)).length + 1 ≤ maxLen ∧ ((bs.set p ((x + 128) % 256)).length + 1) * 1 ≤ 140737488355328 by rw [hlen2]; unfold maxLen; omega)
      have hss := HS.out
      rw [if_neg hk] at hss
      have hs2 : ∃ f' : Nat, p + 1 + 1 + f' = 6 ∧ k / 128 < 128 ^ f' ∧ ((p + 1 + 1 : Nat) : Int) + (if k / 128 = 0 then 0 else (wireG (f' + 2) (k / 128) : Int)) = tg := by
        have hb := HB.out
        cases f with
        | zero => simp at hb; omega
        | succ f =>
          rw [Nat.pow_succ] at hb
          refine ⟨f, by omega, Nat.div_lt_of_lt_mul (by rw [Nat.mul_comm]; exact hb), ?_⟩
          have h8 : wireG (f + 1 + 2) k = if k < 128 then 1 else 1 + wireG (f + 2) (k / 128) := rfl
          rw [h8] at hss
          by_cases h : k < 128
          · rw [if_pos h] at hss
            rw [if_pos (by omega)]
            omega
          · rw [if_neg h] at hss
            rw [if_neg (by omega)]
            omega
      have HS2 := Lib.hid hs2
      clear hcc hput hbw hlen2 hss hs2
      go_wp2_with (at_builtin; (refine push_list u8C 5 65 5 (.int .u8 0) 1 1 Try.underlying65 (by kernel_rfl) rfl (by decide) u8_len u8_one _ _ (by rfl) (by rfl) w.heap.size (.slice (some ⟨g, 0, none⟩) (p + 1) c) (bs.set p ((x + 128) % 256)) ((k : Int) % 128) (by rfl) HOA.out wr.heap.size 1 (by rfl) RBA.out HSL.out.1 HSL.out.2 HWA.out.size (wr.heap.size + 1) (by simp) ?_; intro g8 cap8 w8 o8 g8' l8 l9; have O8 := Lib.hid o8; have G8 := Lib.hid g8'; have L8 := Lib.hid l8; have L9 := Lib.hid l9; clear o8 g8' l8 l9))
      obtain ⟨f', h1, h2, h3⟩ := HS2.out
      have hbb : Below w.heap.size w w8 := HWA.out.grown G8.out HWA.out.size fun q hq => by
        have : g = q := by simpa [Value.ownBlock] using hq
        subst this
        exact (Own.base HO.out g rfl).1
      have hl := HLN.out
      rw [hl] at O8
      refine ⟨⟨k / 128, p + 1 + 1, f', g8, cap8, bs.set p ((x + 128) % 256) ++ [(k : Int) % 128], by simp, by rw [HN.out], by omega, by omega, h1, Lib.hid h2, Lib.hid h3, Lib.hid (by rw [List.length_append, hl]; rfl), O8, Lib.hid hbb⟩, ?_⟩
      simp only [intOf]
      omega
set_option maxRecDepth 100000 in
set_option maxHeartbeats 4000000 in
/-- One number more: base is where the slice's block may lie. -/
theorem number_any (base : Nat) (A : Option Addr) (n c : Nat) (bs : List Int) (m : Nat) (hm : m ≤ 1099511627776) (w : World) (h : Own w base 5 1 u8C (.slice A n c) bs) (hb : base ≤ w.heap.size) (hn : n ≤ 1000) :
    Calls Try.prog 38 #[.slice A n c, .int .i64 m] w fun e w' => ∃ A' n' c' bs', e = .returned (.slice A' n' c') ∧ Own w' base 5 1 u8C (.slice A' n' c') bs' ∧ (n' : Int) = n + wireF m ∧ Below base w w' := by
  have HO := Lib.hid h
  have HNN := Lib.hid (Own.big h).1
  have HWF := Lib.hid (wireF_le m)
  clear h
  go_enter Try.func38, Try.ntmps38
  go_wp2_with fail
  refine (form_any m hm w).mono ?_
  rintro e w1 ⟨v, b1, rfl, o1, hl1, hb1⟩
  obtain ⟨A1, c1, rfl⟩ : ∃ A1 c1, v = .slice A1 b1.length c1 := by
    rcases o1.cases with ⟨rfl, rfl⟩ | ⟨g, cap, rest, rfl, -⟩
    · exact ⟨_, _, rfl⟩
    · exact ⟨_, _, rfl⟩
  obtain ⟨n1, hn1⟩ : ∃ z, z = b1.length := ⟨_, rfl⟩
  rw [← hn1] at o1 ⊢
  have HA := Lib.hid (Own.below HO.out hb1)
  have HR := Lib.hid (Own.read o1)
  have B1 := Lib.hid hb1
  have hsl : bs.length + b1.length ≤ maxLen ∧ (bs.length + b1.length) * 1 ≤ 140737488355328 := by
    have := HNN.out
    have := HWF.out
    unfold maxLen
    omega
  have HSL := Lib.hid hsl
  have HN1 := Lib.hid hn1
  have HL1 := Lib.hid hl1
  have hbs : base ≤ w1.heap.size := Nat.le_trans hb hb1.size
  clear o1 hb1 hsl hn1 hl1
  go_wp2_with (at_builtin; refine cat_list u8C 5 65 65 5 (.int .u8 0) 1 1 Try.underlying65 Try.underlying65 (by kernel_rfl) rfl (by decide) u8_len u8_one _ _ (by rfl) (by rfl) base (.slice A n c) bs b1 (by rfl) HA.out (.slice A1 n1 c1) (by rfl) HR.out HSL.out.1 HSL.out.2 hbs ?_)
  intro v2 w2 o2 g2 l2
  have hbb : Below base w w2 := ((B1.out.mono hb).trans ((Below.refl base w1).grown g2 hbs fun q hq => (Own.base HA.out q hq).1))
  obtain ⟨A2, c2, rfl⟩ : ∃ A2 c2, v2 = .slice A2 (bs ++ b1).length c2 := by
    rcases o2.cases with ⟨rfl, e⟩ | ⟨g, cap, rest, rfl, -⟩
    · exact ⟨_, _, by rw [e]; rfl⟩
    · exact ⟨_, _, rfl⟩
  go_wp2_with fail
  go_ret
  exact ⟨A2, (bs ++ b1).length, c2, bs ++ b1, rfl, o2, by rw [List.length_append]; have := HNN.out; have := HL1.out; omega, hbb⟩
set_option maxRecDepth 100000 in
set_option maxHeartbeats 4000000 in
theorem text_any (s : ByteArray) (hs : s.size ≤ 512) (w : World) :
    Calls Try.prog 39 #[.string s] w fun e w' => ∃ v bs, e = .returned v ∧ Own w' w.heap.size 5 1 u8C v bs ∧ (bs.length : Int) = wireF s.size + s.size ∧ Below w.heap.size w w' := by
  have HWF := Lib.hid (wireF_le s.size)
  obtain ⟨m, hm⟩ : ∃ m, m = s.size := ⟨_, rfl⟩
  have HM := Lib.hid hm
  have hm5 : m ≤ 512 := by omega
  clear hs
  go_enter Try.func39, Try.ntmps39
  go_wp2_with fail
  rw [← HM.out]
  refine (form_any m (by omega) w).mono ?_
  rintro e w1 ⟨v, b1, rfl, o1, hl1, hb1⟩
  obtain ⟨A1, c1, rfl⟩ : ∃ A1 c1, v = .slice A1 b1.length c1 := by
    rcases o1.cases with ⟨rfl, rfl⟩ | ⟨g, cap, rest, rfl, -⟩
    · exact ⟨_, _, rfl⟩
    · exact ⟨_, _, rfl⟩
  obtain ⟨n1, hn1⟩ : ∃ z, z = b1.length := ⟨_, rfl⟩
  rw [← hn1] at o1 ⊢
  have O1 := Lib.hid o1
  have B1 := Lib.hid hb1
  have HL1 := Lib.hid (show (n1 : Int) = wireF m ∧ n1 = b1.length by exact ⟨by omega, hn1⟩)
  have HS := Lib.hid hm.symm
  clear o1 hb1 hn1 hl1 hm
  go_wp2_with fail
  go_loopw [3, 4] (fun out ix wr => ∃ (i n2 c2 : Nat) (A2 : Option Addr) (bs : List Int), i ≤ m ∧ ix = .int .i64 i ∧ out = .slice A2 n2 c2 ∧ Hid (n2 = n1 + i ∧ n2 = bs.length) ∧ Hid (Own wr w.heap.size 5 1 u8C (.slice A2 n2 c2) bs) ∧ Hid (Below w.heap.size w wr)) (fun _ ix _ => m - (intOf ix).toNat)
  case atStart => exact ⟨0, n1, c1, A1, b1, by omega, rfl, rfl, Lib.hid ⟨rfl, HL1.out.2⟩, O1, B1⟩
  case round =>
    clear O1 B1
    obtain ⟨i, n2, c2, A2, bs, hi, rfl, rfl, HN, HO, HB⟩ := hrel
    by_cases hlt : i < m
    · have hi0 : (0 : Int) ≤ (i : Int) := by omega
      have hi1 : (i : Int) < (s.size : Int) := by have := HS.out; omega
      have HSL := Lib.hid (show bs.length + 1 ≤ maxLen ∧ (bs.length + 1) * 1 ≤ 140737488355328 by have := HN.out; have := HL1.out; have := HWF.out; rw [HM.out] at *; unfold maxLen; omega)
      go_wp2_with (at_builtin; go_loud (refine push_list u8C 5 65 5 (.int .u8 0) 1 1 Try.underlying65 (by kernel_rfl) rfl (by decide) u8_len u8_one _ _ (by rfl) (by rfl) w.heap.size (.slice A2 n2 c2) bs _ (by rfl) (Own.alloc HO.out _) wr.heap.size 1 (by rfl) (RowAt.new' _ _ 5 [_] rfl) HSL.out.1 HSL.out.2 (by have := HB.out.size; simp; omega) (wr.heap.size + 1) (by simp) ?_); intro g8 cap8 w8 o8 g8' l8 l9; have O8 := Lib.hid o8; have G8 := Lib.hid g8'; have L8 := Lib.hid l8; have L9 := Lib.hid l9; clear o8 g8' l8 l9)
      have HBB := Lib.hid ((HB.out.alloc HB.out.size _).grown G8.out (by have := HB.out.size; simp; omega) fun q hq => (Own.base HO.out q hq).1)
      exact ⟨⟨i + 1, bs.length + 1, cap8, _, _, by omega, rfl, rfl, Lib.hid ⟨by have := HN.out; omega, by rw [List.length_append]; rfl⟩, O8, HBB⟩, by show m - ((i : Int) + 1).toNat < m - (i : Int).toNat; omega⟩
    · obtain rfl : i = m := by omega
      have hi1 : ¬ (i : Int) < (s.size : Int) := by have := HS.out; omega
      go_wp2_with fail
      go_ret
      exact ⟨_, rfl, bs, HO.out, by have h1 := HN.out; have h2 := HL1.out; have h3 := HM.out; rw [h3] at h1 h2; omega, HB.out⟩
set_option maxRecDepth 100000 in
set_option maxHeartbeats 8000000 in
theorem refbytes_any (r : Row) (hok : r.ok = true) (w : World) : Calls Try.prog 29 #[.agg r.cells.toArray] w fun e w' => ∃ A n c, e = .returned (.slice A n c) ∧ (n : Int) = sizeF r ∧ Below w.heap.size w w' := by
  have hr := (Row.ok_iff r).1 hok
  have hsz : sizeF r = rowSize r := by unfold sizeF; rw [if_pos hok]
  rw [hsz]
  unfold rowSize
  unfold Row.Right at hr
  obtain ⟨a, b, c, d, e, f, s⟩ := r
  clear hok hsz
  simp only [Row.cells] at hr ⊢
  obtain ⟨⟨ha0, ha1⟩, ⟨hb0, hb1⟩, ⟨hc0, hc1⟩, ⟨hd0, hd1⟩, ⟨he0, he1⟩, ⟨hf0, hf1⟩, hs⟩ := hr
  obtain ⟨b, rfl⟩ : ∃ k : Nat, b = k := ⟨b.toNat, by omega⟩
  obtain ⟨c, rfl⟩ : ∃ k : Nat, c = k := ⟨c.toNat, by omega⟩
  obtain ⟨d, rfl⟩ : ∃ k : Nat, d = k := ⟨d.toNat, by omega⟩
  obtain ⟨e, rfl⟩ : ∃ k : Nat, e = k := ⟨e.toNat, by omega⟩
  obtain ⟨f, rfl⟩ : ∃ k : Nat, f = k := ⟨f.toNat, by omega⟩
  have hB : b ≤ 1099511627776 := by omega
  have hC : c ≤ 1099511627776 := by omega
  have hD : d ≤ 1099511627776 := by omega
  have hE : e ≤ 1099511627776 := by omega
  have hF : f ≤ 1099511627776 := by omega
  have WB := Lib.hid (wireF_le b)
  have WC := Lib.hid (wireF_le c)
  have WD := Lib.hid (wireF_le d)
  have WE := Lib.hid (wireF_le e)
  have WF := Lib.hid (wireF_le f)
  have WS := Lib.hid (wireF_le s.size)
  have HS := Lib.hid hs
  have ha2 : a % 256 = a := by omega
  go_enter Try.func29, Try.ntmps29
  go_wp2_with fail
  have R0 := Lib.hid ((RowAt.new w 42 [.int .i64 a, .int .i64 b, .int .i64 c, .int .i64 d, .int .i64 e, .int .i64 f, .string s]).alloc (.cells #[.int .u8 a] 5))
  have O0 := Lib.hid (show Own ((w.alloc (.cells #[.int .i64 a, .int .i64 b, .int .i64 c, .int .i64 d, .int .i64 e, .int .i64 f, .string s] 42)).alloc (.cells #[.int .u8 a] 5)) (w.heap.size + 1) 5 1 u8C (.slice (some ⟨w.heap.size + 1, 0, none⟩) 1 1) [a] from RowAt.own (RowAt.new' _ (w.heap.size + 1) 5 [.int .u8 a] (by simp)) (Nat.le_refl _) rfl (by decide))
  have B0 := Lib.hid (((Below.refl w.heap.size w).alloc (Nat.le_refl _) (.cells #[.int .i64 a, .int .i64 b, .int .i64 c, .int .i64 d, .int .i64 e, .int .i64 f, .string s] 42)).alloc (by simp) (.cells #[.int .u8 a] 5))
  have S0 := Lib.hid (show w.heap.size + 1 ≤ ((w.alloc (.cells #[.int .i64 a, .int .i64 b, .int .i64 c, .int .i64 d, .int .i64 e, .int .i64 f, .string s] 42)).alloc (.cells #[.int .u8 a] 5)).heap.size by simp)
  refine (number_any (w.heap.size + 1) (some ⟨w.heap.size + 1, 0, none⟩) 1 1 [a] b (by omega) _ O0.out S0.out (by omega)).mono ?_
  rintro ex w1 ⟨A1, n1, c1, s1, rfl, o1, hn1, b1⟩
  have O1 := Lib.hid o1
  have HN1 := Lib.hid hn1
  have R1 := Lib.hid (show RowAt w1 w.heap.size 42 _ from (b1.block w.heap.size (by omega)).trans R0.out)
  have B1 := Lib.hid (B0.out.trans (b1.mono (by omega)))
  have S1 := Lib.hid (Nat.le_trans S0.out b1.size)
  clear o1 hn1 b1
  have q := R1.out.cell 2
  simp only [List.getElem?_cons_zero, List.getElem?_cons_succ] at q
  go_wp2_with fail
  clear q
  refine (number_any (w.heap.size + 1) A1 n1 c1 s1 c (by omega) _ O1.out S1.out (by have := HN1.out; have := HN1.out; have := WB.out; omega)).mono ?_
  rintro ex w2 ⟨A2, n2, c2, s2, rfl, o2, hn2, b2⟩
  have O2 := Lib.hid o2
  have HN2 := Lib.hid hn2
  have R2 := Lib.hid (show RowAt w2 w.heap.size 42 _ from (b2.block w.heap.size (by omega)).trans R1.out)
  have B2 := Lib.hid (B1.out.trans (b2.mono (by omega)))
  have S2 := Lib.hid (Nat.le_trans S1.out b2.size)
  clear o2 hn2 b2
  have q := R2.out.cell 3
  simp only [List.getElem?_cons_zero, List.getElem?_cons_succ] at q
  go_wp2_with fail
  clear q
  refine (number_any (w.heap.size + 1) A2 n2 c2 s2 d (by omega) _ O2.out S2.out (by have := HN2.out; have := HN1.out; have := WB.out; have := HN2.out; have := WC.out; omega)).mono ?_
  rintro ex w3 ⟨A3, n3, c3, s3, rfl, o3, hn3, b3⟩
  have O3 := Lib.hid o3
  have HN3 := Lib.hid hn3
  have R3 := Lib.hid (show RowAt w3 w.heap.size 42 _ from (b3.block w.heap.size (by omega)).trans R2.out)
  have B3 := Lib.hid (B2.out.trans (b3.mono (by omega)))
  have S3 := Lib.hid (Nat.le_trans S2.out b3.size)
  clear o3 hn3 b3
  have q := R3.out.cell 4
  simp only [List.getElem?_cons_zero, List.getElem?_cons_succ] at q
  go_wp2_with fail
  clear q
  refine (number_any (w.heap.size + 1) A3 n3 c3 s3 e (by omega) _ O3.out S3.out (by have := HN3.out; have := HN1.out; have := WB.out; have := HN2.out; have := WC.out; have := HN3.out; have := WD.out; omega)).mono ?_
  rintro ex w4 ⟨A4, n4, c4, s4, rfl, o4, hn4, b4⟩
  have O4 := Lib.hid o4
  have HN4 := Lib.hid hn4
  have R4 := Lib.hid (show RowAt w4 w.heap.size 42 _ from (b4.block w.heap.size (by omega)).trans R3.out)
  have B4 := Lib.hid (B3.out.trans (b4.mono (by omega)))
  have S4 := Lib.hid (Nat.le_trans S3.out b4.size)
  clear o4 hn4 b4
  have q := R4.out.cell 5
  simp only [List.getElem?_cons_zero, List.getElem?_cons_succ] at q
  go_wp2_with fail
  clear q
  refine (number_any (w.heap.size + 1) A4 n4 c4 s4 f (by omega) _ O4.out S4.out (by have := HN4.out; have := HN1.out; have := WB.out; have := HN2.out; have := WC.out; have := HN3.out; have := WD.out; have := HN4.out; have := WE.out; omega)).mono ?_
  rintro ex w5 ⟨A5, n5, c5, s5, rfl, o5, hn5, b5⟩
  have O5 := Lib.hid o5
  have HN5 := Lib.hid hn5
  have R5 := Lib.hid (show RowAt w5 w.heap.size 42 _ from (b5.block w.heap.size (by omega)).trans R4.out)
  have B5 := Lib.hid (B4.out.trans (b5.mono (by omega)))
  have S5 := Lib.hid (Nat.le_trans S4.out b5.size)
  clear o5 hn5 b5
  have q := R5.out.cell 6
  simp only [List.getElem?_cons_zero, List.getElem?_cons_succ] at q
  go_wp2_with fail
  clear q
  refine (text_any s HS.out _).mono ?_
  rintro ex w6 ⟨v, b6, rfl, o6, hl6, hb6⟩
  obtain ⟨A6, c6, rfl⟩ : ∃ A6 c6, v = .slice A6 b6.length c6 := by
    rcases o6.cases with ⟨rfl, rfl⟩ | ⟨g, cap, rest, rfl, -⟩
    · exact ⟨_, _, rfl⟩
    · exact ⟨_, _, rfl⟩
  obtain ⟨n6, hn6⟩ : ∃ z, z = b6.length := ⟨_, rfl⟩
  rw [← hn6] at o6 ⊢
  have O6 := Lib.hid (Own.below O5.out hb6)
  have HR6 := Lib.hid (Own.read o6)
  have B6 := Lib.hid (B5.out.trans (hb6.mono (by have := S5.out; omega)))
  have S6 := Lib.hid (Nat.le_trans S5.out hb6.size)
  have HL5 := Lib.hid (Own.big O5.out).1
  have HL6 := Lib.hid (show (n6 : Int) = wireF s.size + s.size ∧ n6 = b6.length by exact ⟨by omega, hn6⟩)
  have HTOT := Lib.hid (show (n5 : Int) = 1 + wireF b + wireF c + wireF d + wireF e + wireF f by
    have := HN1.out; have := HN2.out; have := HN3.out; have := HN4.out; have := HN5.out; omega)
  have hsl : s5.length + b6.length ≤ maxLen ∧ (s5.length + b6.length) * 1 ≤ 140737488355328 := by
    have := HTOT.out; have := HL6.out; have := HL5.out; have := WB.out; have := WC.out; have := WD.out; have := WE.out; have := WF.out; have := WS.out; have := HS.out
    unfold maxLen
    omega
  have HSL := Lib.hid hsl
  clear o6 hb6 hsl hn6 hl6
  go_wp2_with (at_builtin; go_loud (refine cat_list u8C 5 65 65 5 (.int .u8 0) 1 1 Try.underlying65 Try.underlying65 (by kernel_rfl) rfl (by decide) u8_len u8_one _ _ (by rfl) (by rfl) (w.heap.size + 1) (.slice A5 n5 c5) s5 b6 (by rfl) O6.out (.slice A6 n6 c6) (by rfl) HR6.out HSL.out.1 HSL.out.2 S6.out ?_))
  intro v7 w7 o7 g7 l7
  have hbb : Below w.heap.size w w7 := B6.out.grown g7 B6.out.size fun q hq => by have := (Own.base O6.out q hq).1; omega
  obtain ⟨A7, c7, rfl⟩ : ∃ A7 c7, v7 = .slice A7 (s5 ++ b6).length c7 := by
    rcases o7.cases with ⟨rfl, e⟩ | ⟨g, cap, rest, rfl, -⟩
    · exact ⟨_, _, by rw [e]; rfl⟩
    · exact ⟨_, _, rfl⟩
  go_wp2_with fail
  go_ret
  refine ⟨A7, (s5 ++ b6).length, c7, rfl, ?_, hbb⟩
  rw [List.length_append]
  have := HTOT.out; have := HL5.out; have := HL6.out
  omega
end Go.Proofs.Ytmmfobbalhpomaa
