/- New. -/
import Derived.Test.YtfodagidmdbmlaaMQ
namespace Go.Proofs.Ytfodagidmdbmlaa
set_option linter.unusedVariables false
set_option linter.unusedSimpArgs false
open Go.RowKit

/-- The error of New. -/
def newE (n f : Int) : Int := if n < 1 ∨ 64 < n then 150 else if f < 0 ∨ 4 < f then 158 else 0
def machN (n : Nat) (f : Int) : Mach := ⟨f, 0, List.replicate n (none, 0), (0, fun _ => []), [], []⟩
set_option maxRecDepth 100000 in
set_option maxHeartbeats 4000000 in
theorem new_no (n f : Int) (w : World) (h : newE n f ≠ 0) : Calls Try.prog 13 #[.int .i64 n, .int .i64 f] w fun e w' => e = .returned (.tuple #[.pointer none, .int .i64 (newE n f)]) ∧ w' = w := by
  unfold newE at h ⊢
  by_cases h1 : n < 1 ∨ 64 < n
  · rw [if_pos h1]
    rcases h1 with h1 | h1
    · go_enter Try.func13, Try.ntmps13
      go_wp2_with fail
      all_goals first | exact bodyPost_ret (results_tmp2 rfl _ _ _) rfl ⟨rfl, rfl⟩ | (exfalso; omega)
    · have h2 : ¬ n < 1 := by omega
      go_enter Try.func13, Try.ntmps13
      go_wp2_with fail
      all_goals first | exact bodyPost_ret (results_tmp2 rfl _ _ _) rfl ⟨rfl, rfl⟩ | (exfalso; omega)
  · rw [if_neg h1] at h ⊢
    have h3 : ¬ n < 1 := by omega
    have h4 : ¬ 64 < n := by omega
    by_cases h2 : f < 0 ∨ 4 < f
    · rw [if_pos h2]
      clear h1 h
      rcases h2 with h2 | h2
      · go_enter Try.func13, Try.ntmps13
        go_wp2_with fail
        all_goals first | exact bodyPost_ret (results_tmp2 rfl _ _ _) rfl ⟨rfl, rfl⟩ | (exfalso; omega)
      · have h5 : ¬ f < 0 := by omega
        go_enter Try.func13, Try.ntmps13
        go_wp2_with fail
        all_goals first | exact bodyPost_ret (results_tmp2 rfl _ _ _) rfl ⟨rfl, rfl⟩ | (exfalso; omega)
    · rw [if_neg h2] at h
      exact absurd rfl h
theorem machN_ok {n : Nat} (h : n ≤ 64) (f : Int) : MOK (machN n f) := by
  have hx : ∀ (s : Nat) (o : Option Nat) (q : Int), (List.replicate n ((none : Option Nat), (0 : Int)))[s]? = some (o, q) → o = none ∧ q = 0 := fun s o q hs => by
    have := List.mem_of_getElem? hs
    have := List.eq_of_mem_replicate this
    exact ⟨congrArg Prod.fst this, congrArg Prod.snd this⟩
  refine ⟨⟨Int.le_refl _, (by show (0 : Int) ≤ 1099511627776; decide), Nat.zero_le _, by show (List.replicate n _).length ≤ 64; rw [List.length_replicate]; exact h, fun i r hi => by simp [machN] at hi, fun i r hi => by simp [machN] at hi, fun k => List.Pairwise.nil, fun k x hx => (by cases hx), fun s j q hs => (by have := (hx s _ q hs).1; cases this)⟩, fun s j q hs => (by have := (hx s _ q hs).1; cases this), ?_, fun i hi => by simp [machN] at hi, fun s o q hs => by have := (hx s o q hs).2; subst this; exact ⟨Int.le_refl _, Int.natCast_nonneg _⟩⟩
  show 0 + nAct (List.replicate n _) = 0
  have : nAct (List.replicate n ((none : Option Nat), (0 : Int))) = 0 := by
    unfold nAct
    rw [List.length_eq_zero_iff, List.filter_eq_nil_iff]
    intro x hx
    rw [List.eq_of_mem_replicate hx]
    simp
  omega
theorem machN_at {W : World} {m gs p n : Nat} {f : Int} {Fs : Nat → Prop} (hn : n ≤ 64) (h1 : RowAt W m 73 [.int .i64 f, .int .i64 0, .int .i64 0, .slice (some ⟨gs, 0, none⟩) n n, .pointer (some ⟨p, 0, none⟩), .slice none 0 0]) (h2 : RowAt W gs 78 ((List.replicate n (none, 0)).flatMap (sessC []))) (h3 : SAt Fs W p 0 0 (fun _ => [])) (h4 : ¬ Fs m) (h5 : ¬ Fs gs) :
    MM (MF m gs (.slice none 0 0) [] Fs) W m (machN n f) := by
  refine ⟨gs, p, _, _, Fs, 0, ⟨h1.congr ?_, h2, h3, rfl, fun i r q h => by simp [machN] at h, fun i j q q' hij h => by simp at h, Own.nil _ _ _ _ _, fun i hi => ⟨fun e => h4 (e ▸ hi), fun e => h5 (e ▸ hi), by simp [Value.ownBlock], fun k q hq => by simp at hq⟩⟩, Nat.zero_le _, machN_ok hn f, rfl⟩
  unfold rowM machN
  simp
theorem machF {m gs B : Nat} {Fs : Nat → Prop} (h1 : B ≤ m) (h2 : B ≤ gs) (h3 : ∀ i, Fs i → B ≤ i) (i : Nat) (hi : MF m gs (.slice none 0 0) [] Fs i) : B ≤ i := by
  rcases hi with rfl | rfl | hi | hi | ⟨k, q, hk, -⟩
  · exact h1
  · exact h2
  · simp [Value.ownBlock] at hi
  · exact h3 i hi
  · simp at hk
set_option maxRecDepth 100000 in
set_option maxHeartbeats 4000000 in
theorem new_yes (n : Nat) (f : Int) (w : World) (h : newE n f = 0) : Calls Try.prog 13 #[.int .i64 n, .int .i64 f] w fun e w' => ∃ m F, e = .returned (.tuple #[.pointer (some ⟨m, 0, none⟩), .int .i64 0]) ∧ MM F w' m (machN n f) ∧ (∀ i, F i → w.heap.size ≤ i) ∧ Below w.heap.size w w' := by
  have hb : (1 ≤ n ∧ n ≤ 64) ∧ (0 ≤ f ∧ f ≤ 4) := by
    unfold newE at h
    by_cases h1 : (n : Int) < 1 ∨ 64 < (n : Int)
    · rw [if_pos h1] at h; cases h
    rw [if_neg h1] at h
    by_cases h2 : f < 0 ∨ 4 < f
    · rw [if_pos h2] at h; cases h
    omega
  obtain ⟨⟨b1, b2⟩, b3, b4⟩ := hb
  have h1 : ¬ (n : Int) < 1 := by omega
  have h2 : ¬ 64 < (n : Int) := by omega
  have h3 : ¬ f < 0 := by omega
  have h4 : ¬ 4 < f := by omega
  clear h
  have hmk := run_make_flat (P := Try.prog) (sessC []) (none, 0) 69 78 (.agg #[.pointer none, .int .i64 0]) 16 Try.underlying69 (by kernel_rfl) rfl .i64 .i64 n (by omega) (by omega)
  go_enter Try.func13, Try.ntmps13
  go_wp2_with fail
  go_region_held3 (fun _ => True) (exact trivial)
    (first
      | (go_at_call 31; refine (new_any _).mono ?_; rintro e w1 ⟨p, rfl, s1, c1⟩; have S1 := Lib.hid s1; have C1 := Lib.hid c1; clear s1 c1))
  · have hz := C1.out.size
    have hz0 : (w.alloc (.cells (List.flatMap (sessC []) (List.replicate n (none, 0))).toArray 78)).drew.heap.size = w.heap.size + 1 := by show (w.alloc _).heap.size = _; simp
    rw [hz0] at hz
    have g2 := (((RowAt.new w 78 (List.flatMap (sessC []) (List.replicate n (none, 0)))).drew.below C1.out).alloc (.cells #[.int .i64 f, .int .i64 0, .int .i64 0, .slice (some ⟨w.heap.size, 0, none⟩) n n, .pointer (some ⟨p, 0, none⟩), .slice none 0 0] 73))
    have g1 := RowAt.new w1 73 [.int .i64 f, .int .i64 0, .int .i64 0, .slice (some ⟨w.heap.size, 0, none⟩) n n, .pointer (some ⟨p, 0, none⟩), .slice none 0 0]
    have g3 := S1.out.below ((Below.refl w1.heap.size w1).alloc (Nat.le_refl _) (.cells #[.int .i64 f, .int .i64 0, .int .i64 0, .slice (some ⟨w.heap.size, 0, none⟩) n n, .pointer (some ⟨p, 0, none⟩), .slice none 0 0] 73))
    have gb : Below w.heap.size w (w1.alloc (.cells #[.int .i64 f, .int .i64 0, .int .i64 0, .slice (some ⟨w.heap.size, 0, none⟩) n n, .pointer (some ⟨p, 0, none⟩), .slice none 0 0] 73)) := ((((Below.refl w.heap.size w).alloc (Nat.le_refl _) (.cells (List.flatMap (sessC []) (List.replicate n (none, 0))).toArray 78)).drew).trans (C1.out.mono (by rw [hz0]; omega))).alloc (by omega) _
    have GM := Lib.hid (machN_at b2 g1 g2 g3 (fun hh => by have := hh.2; omega) (fun hh => by have := hh.1; rw [hz0] at this; omega))
    have GB := Lib.hid gb
    have GF := Lib.hid (machF (Fs := fun i => (w.alloc (.cells (List.flatMap (sessC []) (List.replicate n (none, 0))).toArray 78)).drew.heap.size ≤ i ∧ i < w1.heap.size) (B := w.heap.size) (m := w1.heap.size) (gs := w.heap.size) (by omega) (Nat.le_refl _) fun i hi => by have := hi.1; rw [hz0] at this; omega)
    clear g1 g2 g3 gb hz hz0 hmk
    go_wp2_with fail
    exact bodyPost_ret (results_tmp2 rfl _ _ _) rfl ⟨_, _, rfl, GM.out, GF.out, GB.out⟩
  · have hz := C1.out.size
    have hz0 : w.drew.heap.size = w.heap.size := rfl
    rw [hz0] at hz
    have g2 := ((RowAt.new w1 78 (List.flatMap (sessC []) (List.replicate n (none, 0)))).alloc (.cells #[.int .i64 f, .int .i64 0, .int .i64 0, .slice (some ⟨w1.heap.size, 0, none⟩) n n, .pointer (some ⟨p, 0, none⟩), .slice none 0 0] 73))
    have g1 := RowAt.new' (w1.alloc (.cells (List.flatMap (sessC []) (List.replicate n (none, 0))).toArray 78)) (w1.heap.size + 1) 73 [.int .i64 f, .int .i64 0, .int .i64 0, .slice (some ⟨w1.heap.size, 0, none⟩) n n, .pointer (some ⟨p, 0, none⟩), .slice none 0 0] (by simp)
    have g3 := S1.out.below (((Below.refl w1.heap.size w1).alloc (Nat.le_refl _) (.cells (List.flatMap (sessC []) (List.replicate n (none, 0))).toArray 78)).alloc (by simp) (.cells #[.int .i64 f, .int .i64 0, .int .i64 0, .slice (some ⟨w1.heap.size, 0, none⟩) n n, .pointer (some ⟨p, 0, none⟩), .slice none 0 0] 73))
    have gb : Below w.heap.size w ((w1.alloc (.cells (List.flatMap (sessC []) (List.replicate n (none, 0))).toArray 78)).alloc (.cells #[.int .i64 f, .int .i64 0, .int .i64 0, .slice (some ⟨w1.heap.size, 0, none⟩) n n, .pointer (some ⟨p, 0, none⟩), .slice none 0 0] 73)) := ((((Below.refl w.heap.size w).drew).trans (C1.out.mono (by rw [hz0]; exact Nat.le_refl _))).alloc (by omega) _).alloc (by simp; omega) _
    have GM := Lib.hid (machN_at b2 g1 g2 g3 (fun hh => by have := hh.2; omega) (fun hh => by have := hh.2; omega))
    have GB := Lib.hid gb
    have GF := Lib.hid (machF (Fs := fun i => w.drew.heap.size ≤ i ∧ i < w1.heap.size) (B := w.heap.size) (m := w1.heap.size + 1) (gs := w1.heap.size) (by omega) (by omega) fun i hi => by have := hi.1; rw [hz0] at this; omega)
    clear g1 g2 g3 gb hz hz0 hmk
    go_wp2_with fail
    exact bodyPost_ret (results_tmp2 rfl _ _ _) rfl ⟨_, _, rfl, GM.out, GF.out, GB.out⟩

end Go.Proofs.Ytfodagidmdbmlaa
