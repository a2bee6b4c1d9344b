/- The size of a row. -/
import Derived.Test.YtmmfobbalhpomaaSd
namespace Go.Proofs.Ytmmfobbalhpomaa
set_option linter.unusedVariables false
set_option linter.unusedSimpArgs false
open Go.RowKit

def wireG : Nat → Nat → Nat
  | 0, _ => 1
  | f + 1, n => if n < 128 then 1 else 1 + wireG f (n / 128)
theorem wireG_small (f n : Nat) (h : n < 128) : wireG f n = 1 := by
  cases f with
  | zero => rfl
  | succ f => rw [wireG, if_pos h]
theorem wireG_le : ∀ (f n : Nat), 1 ≤ wireG f n ∧ wireG f n ≤ f + 1 := by
  intro f
  induction f with
  | zero => intro n; exact ⟨Nat.le_refl _, Nat.le_refl _⟩
  | succ f ih =>
    intro n
    rw [wireG]
    split
    · omega
    · have := ih (n / 128); omega
def wireF (n : Int) : Int := (wireG 8 n.toNat : Int)
theorem wireF_le (n : Int) : 1 ≤ wireF n ∧ wireF n ≤ 9 := by
  have := wireG_le 8 n.toNat
  unfold wireF
  omega
set_option maxHeartbeats 1600000 in
theorem wire_any (n : Int) (h0 : 0 ≤ n) (h1 : n ≤ 1099511627776) (w : World) : Calls Try.prog 30 #[.int .i64 n] w fun e w' => e = .returned (.int .i64 (wireF n)) ∧ w = w' := by
  obtain ⟨m, rfl⟩ : ∃ m : Nat, n = m := ⟨n.toNat, by omega⟩
  obtain ⟨tg, htg⟩ : ∃ t, t = wireF (m : Int) := ⟨_, rfl⟩
  rw [← htg]
  have HT := Lib.hid htg
  clear htg
  have hz : ¬ ((m : Int) < 0) := by omega
  have hz2 : ¬ (72057594037927935 < (m : Int)) := by omega
  have hm : m ≤ 1099511627776 := by omega
  go_enter Try.func30, Try.ntmps30
  go_wp2
  go_loopw [0, 3] (fun a b wr => ∃ k s f : Nat, a = .int .i64 k ∧ b = .int .i64 s ∧ k ≤ m ∧ s ≤ 9 ∧ s + f = 9 ∧ Hid (k < 128 ^ (f + 1)) ∧ Hid ((s : Int) + wireG f k = tg + 1) ∧ wr = w) (fun a _ _ => (intOf a).toNat)
  case atStart => exact ⟨m, 1, 8, rfl, rfl, Nat.le_refl _, by omega, by omega, Nat.lt_of_le_of_lt hm (by decide), by rw [HT.out, wireF, Int.toNat_natCast]; show ((1 : Nat) : Int) + _ = _; omega, rfl⟩
  case round =>
    obtain ⟨k, s, f, rfl, rfl, hkm, hs9, hsf, HB, HS, rfl⟩ := hrel
    by_cases hk : k < 128
    · have hd : ¬ ((128 : Int) ≤ (k : Int)) := by omega
      go_wp2
      go_ret
      have := HS.out
      rw [wireG_small f k hk] at this
      exact ⟨ret_int (by omega), by first | rfl | trivial⟩
    · obtain ⟨f, rfl⟩ : ∃ g, f = g + 1 := by
        cases f with
        | zero => exact absurd HB.out (by simpa using hk)
        | succ f => exact ⟨f, rfl⟩
      have hd : ((128 : Int) ≤ (k : Int)) := by omega
      have hb := HB.out
      rw [Nat.pow_succ] at hb
      have HB2 := Lib.hid (show k / 128 < 128 ^ (f + 1) from Nat.div_lt_of_lt_mul (by rw [Nat.mul_comm]; exact hb))
      have hss := HS.out
      rw [wireG, if_neg hk] at hss
      have HS2 := Lib.hid (show ((s + 1 : Nat) : Int) + wireG f (k / 128) = tg + 1 by omega)
      clear hb hss HB HS
      go_wp2
      refine ⟨⟨k / 128, s + 1, f, by simp, by simp, by omega, by omega, by omega, HB2.out, HS2.out, trivial⟩, ?_⟩
      simp only [intOf]
      omega
def rowSize (r : Row) : Int := 1 + wireF r.time + wireF r.seq + wireF r.index + wireF r.frm + wireF r.to + wireF r.body.size + r.body.size
def sizeF (r : Row) : Int := if r.ok = true then rowSize r else 0
theorem sizeF_le (r : Row) : (r.ok = true → 7 ≤ sizeF r ∧ sizeF r ≤ 1000) ∧ (r.ok = false → sizeF r = 0) := by
  refine ⟨fun h => ?_, fun h => by rw [sizeF, if_neg (by rw [h]; decide)]⟩
  have hr := (Row.ok_iff r).1 h
  unfold Row.Right at hr
  have := wireF_le r.time
  have := wireF_le r.seq
  have := wireF_le r.index
  have := wireF_le r.frm
  have := wireF_le r.to
  have := wireF_le r.body.size
  rw [sizeF, if_pos h, rowSize]
  omega
set_option maxRecDepth 100000 in
set_option maxHeartbeats 1600000 in
theorem size_any (r : Row) (w : World) : Calls Try.prog 20 #[.agg r.cells.toArray] w fun e w' => e = .returned (.int .i64 (sizeF r)) ∧ Below w.heap.size w w' := by
  obtain ⟨k, t, s, i, f, o, b⟩ := r
  obtain ⟨ok, hok⟩ : ∃ q, q = Row.ok ⟨k, t, s, i, f, o, b⟩ := ⟨_, rfl⟩
  obtain ⟨sz, hsz⟩ : ∃ q, q = sizeF ⟨k, t, s, i, f, o, b⟩ := ⟨_, rfl⟩
  rw [← hsz]
  have HS := Lib.hid hsz
  have HOk := Lib.hid hok
  have hnot : ∀ (x : Bool) (w : World), (Op.unary .not (.bool x)).run Try.prog w = .ok (.bool (!x)) w := fun _ _ => rfl
  clear hok hsz
  simp only [Row.cells]
  have BX := Lib.hid (RowAt.new w 30 [.int .i64 k, .int .i64 t, .int .i64 s, .int .i64 i, .int .i64 f, .int .i64 o, .string b])
  have B0 := Lib.hid ((Below.refl w.heap.size w).alloc (Nat.le_refl _) (.cells [Value.int .i64 k, .int .i64 t, .int .i64 s, .int .i64 i, .int .i64 f, .int .i64 o, .string b].toArray 30))
  have hbl := BX.out.lt
  go_enter Try.func20, Try.ntmps20
  go_wp2_with fail
  refine (valid_any ⟨k, t, s, i, f, o, b⟩ _).mono ?_
  rintro e w1 ⟨rfl, hb1⟩
  rw [← HOk.out]
  have BX1 := Lib.hid (BX.out.below hb1)
  have B1 := Lib.hid (B0.out.trans (hb1.mono (by simp)))
  clear hb1 BX B0 hbl
  cases ok with
  | false =>
    have e : sz = 0 := by rw [HS.out]; exact (sizeF_le _).2 HOk.out.symm
    subst e
    go_wp2
    go_ret
    exact ⟨rfl, B1.out⟩
  | true =>
    have hr := (Row.ok_iff _).1 HOk.out.symm
    unfold Row.Right at hr
    simp only at hr
    obtain ⟨-, ht, hs, hi, hf, ho, hb⟩ := hr
    have hsz : sz = 1 + wireF t + wireF s + wireF i + wireF f + wireF o + wireF b.size + b.size := by rw [HS.out, sizeF, if_pos HOk.out.symm]; rfl
    have HZ := Lib.hid hsz
    have hc := BX1.out.cell
    have HT := Lib.hid ht
    have HSq := Lib.hid hs
    have HI := Lib.hid hi
    have HF := Lib.hid hf
    have HO := Lib.hid ho
    have hbz : (0 : Int) ≤ b.size := by omega
    have hbm : (b.size : Int) ≤ 512 := by omega
    clear hsz ht hs hi hf ho hb
    obtain ⟨z1, hz1⟩ : ∃ z, z = wireF t := ⟨_, rfl⟩
    obtain ⟨z2, hz2⟩ : ∃ z, z = wireF s := ⟨_, rfl⟩
    obtain ⟨z3, hz3⟩ : ∃ z, z = wireF i := ⟨_, rfl⟩
    obtain ⟨z4, hz4⟩ : ∃ z, z = wireF f := ⟨_, rfl⟩
    obtain ⟨z5, hz5⟩ : ∃ z, z = wireF o := ⟨_, rfl⟩
    obtain ⟨z6, hz6⟩ : ∃ z, z = wireF b.size := ⟨_, rfl⟩
    have l1 := wireF_le t
    have l2 := wireF_le s
    have l3 := wireF_le i
    have l4 := wireF_le f
    have l5 := wireF_le o
    have l6 := wireF_le b.size
    rw [← hz1, ← hz2, ← hz3, ← hz4, ← hz5, ← hz6] at HZ
    rw [← hz1] at l1
    rw [← hz2] at l2
    rw [← hz3] at l3
    rw [← hz4] at l4
    rw [← hz5] at l5
    rw [← hz6] at l6
    have Z1 := Lib.hid hz1
    have Z2 := Lib.hid hz2
    have Z3 := Lib.hid hz3
    have Z4 := Lib.hid hz4
    have Z5 := Lib.hid hz5
    have Z6 := Lib.hid hz6
    clear hz1 hz2 hz3 hz4 hz5 hz6
    have hix0 : ∀ w : World, (Instr.index 67 (.agg #[.int .i64 t, .int .i64 s, .int .i64 i, .int .i64 f, .int .i64 o, .int .i64 b.size]) (.int .i64 0)).run Try.prog w = .ok (.int .i64 t) w := fun _ => by kernel_rfl
    have hix1 : ∀ w : World, (Instr.index 67 (.agg #[.int .i64 t, .int .i64 s, .int .i64 i, .int .i64 f, .int .i64 o, .int .i64 b.size]) (.int .i64 1)).run Try.prog w = .ok (.int .i64 s) w := fun _ => by kernel_rfl
    have hix2 : ∀ w : World, (Instr.index 67 (.agg #[.int .i64 t, .int .i64 s, .int .i64 i, .int .i64 f, .int .i64 o, .int .i64 b.size]) (.int .i64 2)).run Try.prog w = .ok (.int .i64 i) w := fun _ => by kernel_rfl
    have hix3 : ∀ w : World, (Instr.index 67 (.agg #[.int .i64 t, .int .i64 s, .int .i64 i, .int .i64 f, .int .i64 o, .int .i64 b.size]) (.int .i64 3)).run Try.prog w = .ok (.int .i64 f) w := fun _ => by kernel_rfl
    have hix4 : ∀ w : World, (Instr.index 67 (.agg #[.int .i64 t, .int .i64 s, .int .i64 i, .int .i64 f, .int .i64 o, .int .i64 b.size]) (.int .i64 4)).run Try.prog w = .ok (.int .i64 o) w := fun _ => by kernel_rfl
    have hix5 : ∀ w : World, (Instr.index 67 (.agg #[.int .i64 t, .int .i64 s, .int .i64 i, .int .i64 f, .int .i64 o, .int .i64 b.size]) (.int .i64 5)).run Try.prog w = .ok (.int .i64 b.size) w := fun _ => by kernel_rfl
    go_wp2
    go_loopw [23, 3] (fun i v wr => ∃ j : Nat, i = .int .i64 j ∧ j ≤ 6 ∧ v = .int .i64 (1 + (if 0 < j then z1 else 0) + (if 1 < j then z2 else 0) + (if 2 < j then z3 else 0) + (if 3 < j then z4 else 0) + (if 4 < j then z5 else 0) + (if 5 < j then z6 else 0)) ∧ wr = w1) (fun i _ _ => 6 - (intOf i).toNat)
    case atStart => exact ⟨0, rfl, by omega, by simp, rfl⟩
    case round =>
      obtain ⟨j, rfl, hj, rfl, rfl⟩ := hrel
      have hj7 : j = 0 ∨ j = 1 ∨ j = 2 ∨ j = 3 ∨ j = 4 ∨ j = 5 ∨ j = 6 := by omega
      rcases hj7 with rfl | rfl | rfl | rfl | rfl | rfl | rfl
      · go_wp2_with fail
        refine (wire_any t HT.out.1 HT.out.2 _).mono ?_
        rintro e w2 ⟨rfl, rfl⟩
        rw [← Z1.out]
        go_wp2
        refine ⟨⟨1, by simp, by omega, by simp, trivial⟩, by simp [intOf]⟩
      · go_wp2_with fail
        refine (wire_any s HSq.out.1 (by have := HSq.out.2; omega) _).mono ?_
        rintro e w2 ⟨rfl, rfl⟩
        rw [← Z2.out]
        go_wp2
        refine ⟨⟨2, by simp, by omega, by simp, trivial⟩, by simp [intOf]⟩
      · go_wp2_with fail
        refine (wire_any i HI.out.1 (by have := HI.out.2; omega) _).mono ?_
        rintro e w2 ⟨rfl, rfl⟩
        rw [← Z3.out]
        go_wp2
        refine ⟨⟨3, by simp, by omega, by simp, trivial⟩, by simp [intOf]⟩
      · go_wp2_with fail
        refine (wire_any f HF.out.1 HF.out.2 _).mono ?_
        rintro e w2 ⟨rfl, rfl⟩
        rw [← Z4.out]
        go_wp2
        refine ⟨⟨4, by simp, by omega, by simp, trivial⟩, by simp [intOf]⟩
      · go_wp2_with fail
        refine (wire_any o HO.out.1 HO.out.2 _).mono ?_
        rintro e w2 ⟨rfl, rfl⟩
        rw [← Z5.out]
        go_wp2
        refine ⟨⟨5, by simp, by omega, by simp, trivial⟩, by simp [intOf]⟩
      · go_wp2_with fail
        refine (wire_any b.size hbz (by omega) _).mono ?_
        rintro e w2 ⟨rfl, rfl⟩
        rw [← Z6.out]
        go_wp2
        refine ⟨⟨6, by simp, by omega, by simp, trivial⟩, by simp [intOf]⟩
      · go_wp2
        go_ret
        exact ⟨ret_int (by rw [HZ.out]), B1.out⟩
end Go.Proofs.Ytmmfobbalhpomaa
