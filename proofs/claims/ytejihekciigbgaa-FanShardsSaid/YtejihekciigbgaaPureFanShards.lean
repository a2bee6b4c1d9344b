/- The ranges that Shards answers follow one another from 0 to n, the greater ones first, for every n and k; outside the bounds it answers the error and no range. No conditions. -/
import Derived.Test.YtejihekciigbgaaPFanShardsx2
namespace Go.Proofs.Ytejihekciigbgaa.Pure
open Go.RowKit Go.Proofs.Ytejihekciigbgaa.PFanShards Go.Proofs.YtejihekciigbgaaW.PrintWords Go.Proofs.YtejihekciigbgaaW.PrintLast

/-- Where range i begins. -/
def fsAt (q r : Int) (i : Nat) : Int := i * q + (if (i : Int) ≤ r then (i : Int) else r)
def fsList (q r : Int) (i : Nat) : List S27 := (List.range i).map fun j => ⟨fsAt q r j, fsAt q r (j + 1)⟩
theorem fsList_succ (q r : Int) (i : Nat) : fsList q r (i + 1) = fsList q r i ++ [⟨fsAt q r i, fsAt q r (i + 1)⟩] := by
  simp [fsList, List.range_succ]
theorem fsList_length (q r : Int) (i : Nat) : (fsList q r i).length = i := by simp [fsList]
theorem fsAt_succ (q r : Int) (i : Nat) : fsAt q r (i + 1) = fsAt q r i + (if (i : Int) < r then q + 1 else q) := by
  unfold fsAt
  have h : ((i + 1 : Nat) : Int) * q = (i : Int) * q + q := by
    rw [Int.natCast_add, Int.add_mul]; simp
  rw [h]
  split <;> split <;> (try split) <;> omega
theorem fsAt_zero (q r : Int) (hr : 0 ≤ r) : fsAt q r 0 = 0 := by unfold fsAt; rw [if_pos (by simpa using hr)]; simp
theorem wr (x : Int) (h : -9223372036854775808 ≤ x) (h' : x ≤ 9223372036854775807) : wrap64 x = x := by unfold wrap64; omega

structure Fs (n : Int) (k : Nat) (q r : Int) : Prop where
  hn : 0 ≤ n
  hn' : n ≤ 9223372036854775807
  hk : 1 ≤ k
  hk' : k ≤ 16
  hq : Int.tdiv n k = q
  hr : Int.tmod n k = r
  q0 : 0 ≤ q
  r0 : 0 ≤ r
  rk : r < k
  e : (k : Int) * q + r = n

theorem Fs.mk' (n : Int) (k : Nat) (hn : 0 ≤ n) (hn' : n ≤ 9223372036854775807) (hk : 1 ≤ k) (hk' : k ≤ 16) : ∃ q r, Fs n k q r := by
  refine ⟨n / k, n % k, hn, hn', hk, hk', Int.tdiv_eq_ediv_of_nonneg hn, Int.tmod_eq_emod_of_nonneg hn, Int.ediv_nonneg hn (by omega), Int.emod_nonneg _ (by omega), Int.emod_lt_of_pos _ (by omega), Int.mul_ediv_add_emod n k⟩

theorem Fs.bd {n : Int} {k : Nat} {q r : Int} (h : Fs n k q r) (i : Nat) (hi : i ≤ k) : 0 ≤ fsAt q r i ∧ fsAt q r i ≤ n ∧ q ≤ n := by
  have a : (i : Int) * q ≤ (k : Int) * q := Int.mul_le_mul_of_nonneg_right (by omega) h.q0
  have b : 0 ≤ (i : Int) * q := Int.mul_nonneg (by omega) h.q0
  have c : (1 : Int) * q ≤ (k : Int) * q := Int.mul_le_mul_of_nonneg_right (by have := h.hk; omega) h.q0
  have e := h.e
  have r0 := h.r0
  unfold fsAt
  split <;> omega
theorem Fs.last {n : Int} {k : Nat} {q r : Int} (h : Fs n k q r) : fsAt q r k = n := by
  have e := h.e
  have := h.rk
  unfold fsAt
  rw [if_neg (by omega)]
  omega

theorem shards_loop {n : Int} {k : Nat} {q r : Int} (h : Fs n k q r) (d : Nat) : ∀ (f i : Nat), i + d = k → d < f →
    fan_Shards.l0 f n k (fsList q r i) (fsAt q r i) k i = some (fsList q r k, 0) := by
  induction d with
  | zero =>
    intro f i hi hf
    obtain ⟨f, rfl⟩ : ∃ m, f = m + 1 := ⟨f - 1, by omega⟩
    obtain rfl : i = k := by omega
    simp only [fan_Shards.l0]
    rw [if_neg (by omega)]
  | succ d ih =>
    intro f i hi hf
    obtain ⟨f, rfl⟩ : ∃ m, f = m + 1 := ⟨f - 1, by omega⟩
    have ih' := ih f (i + 1) (by omega) (by omega)
    have b := h.bd i (by omega)
    have b' := h.bd (i + 1) (by omega)
    have s := fsAt_succ q r i
    have hn' := h.hn'
    have hk' := h.hk'
    have q0 := h.q0
    have hk := h.hk
    simp only [fan_Shards.l0]
    rw [if_pos (by omega), if_neg (by omega), h.hq, h.hr, fsList_length]
    rw [fsList_succ] at ih'
    have ei : ((i + 1 : Nat) : Int) = (i : Int) + 1 := by omega
    by_cases c : (i : Int) < r
    · rw [if_pos c] at s
      have hlt : q < n ∨ n < q + 1 := by omega
      have hq1 : wrap64 (wrap64 q + 1) = q + 1 := by rw [wr q (by omega) (by omega)]; exact wr _ (by omega) (by omega)
      rw [if_pos c, if_pos (by omega), hq1, wr (fsAt q r i + (q + 1)) (by omega) (by omega), wr ((i : Int) + 1) (by omega) (by omega), ← s, ← ei]
      exact ih'
    · rw [if_neg c] at s
      rw [if_neg c, if_pos (by omega), wr q (by omega) (by omega), wr (fsAt q r i + q) (by omega) (by omega), wr ((i : Int) + 1) (by omega) (by omega), ← s, ← ei]
      exact ih'

theorem shards_yes {n : Int} {k : Nat} {q r : Int} (h : Fs n k q r) (f : Nat) (hf : 20 ≤ f) : fan_Shards.f f n k = some (fsList q r k, 0) := by
  have hk := h.hk
  have hk' := h.hk'
  have hn := h.hn
  obtain ⟨f, rfl⟩ : ∃ m, f = m + 1 := ⟨f - 1, by omega⟩
  unfold fan_Shards.f
  rw [if_neg (by omega), if_neg (by omega)]
  have l := shards_loop h k f 0 (by omega) (by omega)
  rw [fsAt_zero q r h.r0] at l
  simp only [fan_Shards.j0]
  rw [if_neg (by simp; omega)]
  exact l

theorem shards_no (n k : Int) (f : Nat) (h : n < 0 ∨ k < 1 ∨ k > 16) : fan_Shards.f (f + 1) n k = some ([], 23) := by
  unfold fan_Shards.f
  simp only [fan_Shards.j0]
  by_cases a : n < 0
  · simp [a]
  · by_cases b : k < 1
    · simp [a, b]
    · simp [a, b]; omega

theorem fs_rd (q r : Int) (k i : Nat) (h : i < k) : rd_T27 (fsList q r k) i = ⟨fsAt q r i, fsAt q r (i + 1)⟩ := by
  unfold rd_T27 fsList
  simp [h]

theorem law_loop {n : Int} {k : Nat} {q r : Int} (h : Fs n k q r) (d : Nat) : ∀ (f i : Nat), i + d = k → d < f →
    proctorlaw02_FanShards.l0 f n k (fsAt q r i) (fsList q r k) k i = some true := by
  induction d with
  | zero =>
    intro f i hi hf
    obtain ⟨f, rfl⟩ : ∃ m, f = m + 1 := ⟨f - 1, by omega⟩
    obtain rfl : i = k := by omega
    simp only [proctorlaw02_FanShards.l0]
    rw [if_neg (by omega), h.last]
    simp
  | succ d ih =>
    intro f i hi hf
    obtain ⟨f, rfl⟩ : ∃ m, f = m + 1 := ⟨f - 1, by omega⟩
    have ih' := ih f (i + 1) (by omega) (by omega)
    have b := h.bd i (by omega)
    have b' := h.bd (i + 1) (by omega)
    have s := fsAt_succ q r i
    have hn' := h.hn'
    have hk' := h.hk'
    have q0 := h.q0
    have hk := h.hk
    have ei : ((i + 1 : Nat) : Int) = (i : Int) + 1 := by omega
    simp only [proctorlaw02_FanShards.l0]
    rw [if_pos (by omega), if_pos (by omega), fsList_length, if_pos (by omega), if_neg (by omega), h.hq, h.hr, fs_rd q r k i (by omega)]
    simp only []
    by_cases c : (i : Int) < r
    · rw [if_pos c] at s
      have hq1 : wrap64 (wrap64 q + 1) = q + 1 := by rw [wr q (by omega) (by omega)]; exact wr _ (by omega) (by omega)
      rw [if_pos c, if_pos trivial, hq1, wr (fsAt q r (i + 1) - fsAt q r i) (by omega) (by omega), if_pos (by omega), wr ((i : Int) + 1) (by omega) (by omega), ← ei]
      exact ih'
    · rw [if_neg c] at s
      rw [if_neg c, if_pos trivial, wr q (by omega) (by omega), wr (fsAt q r (i + 1) - fsAt q r i) (by omega) (by omega), if_pos (by omega), wr ((i : Int) + 1) (by omega) (by omega), ← ei]
      exact ih'

theorem FanShards : proctorlaw02_FanShards.Pure := by
  intro n k wn wk
  refine ⟨64, ?_⟩
  have a : fan_Shards.f 64 5 2 = some ([⟨0, 3⟩, ⟨3, 5⟩], 0) := by
    obtain ⟨q, r, h⟩ := Fs.mk' 5 2 (by omega) (by omega) (by omega) (by omega)
    have := shards_yes h 64 (by omega)
    have hq := h.hq
    have hr := h.hr
    have : q = 2 := by rw [← hq]; rfl
    subst this
    have : r = 1 := by rw [← hr]; rfl
    subst this
    rw [show (2 : Int) = ((2 : Nat) : Int) from rfl]
    rw [shards_yes h 64 (by omega)]
    rfl
  unfold proctorlaw02_FanShards.f
  rw [a]
  simp only [Option.bind_some]
  have r0 : rd_T27 [⟨0, 3⟩, ⟨3, 5⟩] 0 = ⟨0, 3⟩ := rfl
  have r1 : rd_T27 [⟨0, 3⟩, ⟨3, 5⟩] 1 = ⟨3, 5⟩ := rfl
  rw [r0, r1]
  simp only [List.length_cons, List.length_nil]
  simp only [proctorlaw02_FanShards.j0]
  by_cases hb : n < 0 ∨ k < 1 ∨ k > 16
  · rw [shards_no n k 62 hb]
    simp only [Option.bind_some]
    simp only [proctorlaw02_FanShards.j1]
    by_cases a1 : n < 0
    · simp [a1]
    · by_cases b1 : k < 1
      · simp [a1, b1]
      · have c1 : k > 16 := by omega
        simp [a1, b1, c1]
  · have hn : n ≤ 9223372036854775807 := by
      simp [Lit.wf] at wn
      omega
    obtain ⟨m, rfl⟩ : ∃ m : Nat, k = m := ⟨k.toNat, by omega⟩
    obtain ⟨q, r, h⟩ := Fs.mk' n m (by omega) hn (by omega) (by omega)
    have l := law_loop h m 61 0 (by omega) (by omega)
    rw [fsAt_zero q r h.r0] at l
    have n0 : ¬ n < 0 := by omega
    have m1 : ¬ (m : Int) < 1 := by omega
    have m2 : ¬ (16 : Int) < m := by omega
    have sy : fan_Shards.f 63 n m = some (fsList q r m, 0) := shards_yes h 63 (by omega)
    simp [proctorlaw02_FanShards.j1, proctorlaw02_FanShards.j2, sy, n0, m1, m2, fsList_length]
    exact l

end Go.Proofs.Ytejihekciigbgaa.Pure
