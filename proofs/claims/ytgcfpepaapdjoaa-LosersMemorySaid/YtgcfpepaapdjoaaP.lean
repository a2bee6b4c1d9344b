/- The plain law of the tree of losers: it tells the least source. No program in sight. -/
import Derived.Test.YtgcfpepaapdjoaaR
namespace Go.Proofs.Ytgcfpepaapdjoaa
set_option linter.unusedVariables false
set_option linter.unusedSimpArgs false

/-- A source: 0 waits, 1 fed, 2 finished. -/
structure Src where
  st : Int
  row : Row
def Src.zero : Src := ⟨0, Row.zero⟩

/-- Does a source at place a win against one at place b? -/
def beatsS (o : Int) (x y : Src) (a b : Nat) : Bool :=
  if x.st = y.st then if x.st = 1 then if cmpRow o x.row y.row = 0 then decide (a < b) else decide (cmpRow o x.row y.row < 0) else decide (a < b) else decide (x.st = 1)
def at' (xs : List Src) (i : Nat) : Src := xs.getD i Src.zero
def bt (o : Int) (xs : List Src) (a b : Nat) : Bool := beatsS o (at' xs a) (at' xs b) a b

/-! ### 1. The order of the sources is total -/
def kA (o : Int) (r : Row) : Int := r.time
def kB (o : Int) (r : Row) : Int := if o = 1 then r.kind else r.seq
def kC (r : Row) : Int := r.index
theorem cmpRow_neg (o : Int) (ho : o = 1 ∨ o = 2) (a b : Row) : cmpRow o a b < 0 ↔ (kA o a < kA o b ∨ kA o a = kA o b ∧ (kB o a < kB o b ∨ kB o a = kB o b ∧ kC a < kC b)) := by
  have h : (before o a b = true) ↔ cmpRow o a b < 0 := by simp [before]
  rw [← h]
  rcases ho with rfl | rfl
  · rw [before_one]; unfold kA kB kC; simp only [if_true]
    by_cases e1 : a.time = b.time
    · by_cases e2 : a.kind = b.kind
      · simp [e1, e2]
      · simp [e1, e2]
    · simp [e1]
  · rw [before_two]; unfold kA kB kC; simp only [show ¬ (2 : Int) = 1 from by omega, if_false]
    by_cases e1 : a.time = b.time
    · by_cases e2 : a.seq = b.seq
      · simp [e1, e2]
      · simp [e1, e2]
    · simp [e1]
theorem cmpRow_zero (o : Int) (ho : o = 1 ∨ o = 2) (a b : Row) : cmpRow o a b = 0 ↔ (kA o a = kA o b ∧ kB o a = kB o b ∧ kC a = kC b) := by
  have e : cmpRow o a b = orI [cmpI (kA o a) (kA o b), cmpI (kB o a) (kB o b), cmpI (kC a) (kC b)] := by
    rcases ho with rfl | rfl
    · simp [cmpRow, kA, kB, kC]
    · simp [cmpRow, kA, kB, kC]
  rw [e, orI3]
  unfold cmpI
  repeat' split
  all_goals simp
  all_goals omega
/-- Is source x at place a ahead of source y at place b? (Both of them fed or finished.) -/
def Ahead (o : Int) (x y : Src) (a b : Nat) : Prop :=
  x.st < y.st ∨ x.st = y.st ∧ (x.st = 1 ∧ (kA o x.row < kA o y.row ∨ kA o x.row = kA o y.row ∧ (kB o x.row < kB o y.row ∨ kB o x.row = kB o y.row ∧ kC x.row < kC y.row)) ∨
    (x.st = 1 → kA o x.row = kA o y.row ∧ kB o x.row = kB o y.row ∧ kC x.row = kC y.row) ∧ a < b)
def Full (x : Src) : Prop := x.st = 1 ∨ x.st = 2
theorem beatsS_iff (o : Int) (ho : o = 1 ∨ o = 2) (x y : Src) (a b : Nat) (hx : Full x) (hy : Full y) : beatsS o x y a b = true ↔ Ahead o x y a b := by
  have hn := cmpRow_neg o ho x.row y.row
  have hz := cmpRow_zero o ho x.row y.row
  unfold beatsS Ahead
  unfold Full at hx hy
  by_cases e : x.st = y.st
  · rw [if_pos e]
    by_cases e1 : x.st = 1
    · rw [if_pos e1]
      by_cases c : cmpRow o x.row y.row = 0
      · rw [if_pos c]
        have := hz.1 c
        have e1y : y.st = 1 := by omega
        simp only [decide_eq_true_eq]
        omega
      · rw [if_neg c]
        have hz' : ¬ (kA o x.row = kA o y.row ∧ kB o x.row = kB o y.row ∧ kC x.row = kC y.row) := fun h => c (hz.2 h)
        simp only [decide_eq_true_eq, hn]
        omega
    · rw [if_neg e1]
      simp only [decide_eq_true_eq]
      omega
  · rw [if_neg e]
    simp only [decide_eq_true_eq]
    omega
theorem ahead_trans (o : Int) {x y z : Src} {a b c : Nat} (h1 : Ahead o x y a b) (h2 : Ahead o y z b c) : Ahead o x z a c := by
  unfold Ahead at *
  omega
theorem ahead_total (o : Int) {x y : Src} {a b : Nat} (hne : a ≠ b) : Ahead o x y a b ∨ Ahead o y x b a := by
  unfold Ahead
  omega
theorem ahead_asymm (o : Int) {x y : Src} {a b : Nat} (h1 : Ahead o x y a b) (h2 : Ahead o y x b a) : False := by
  unfold Ahead at *
  omega
/-- None waits. -/
def AllFull (xs : List Src) : Prop := ∀ i, i < xs.length → Full (at' xs i)
section
variable {o : Int} {xs : List Src}
theorem bt_trans (ho : o = 1 ∨ o = 2) (hf : AllFull xs) {a b c : Nat} (ha : a < xs.length) (hb : b < xs.length) (hc : c < xs.length) (h1 : bt o xs a b = true) (h2 : bt o xs b c = true) : bt o xs a c = true := by
  unfold bt at *
  rw [beatsS_iff o ho _ _ _ _ (hf _ ha) (hf _ hb)] at h1
  rw [beatsS_iff o ho _ _ _ _ (hf _ hb) (hf _ hc)] at h2
  rw [beatsS_iff o ho _ _ _ _ (hf _ ha) (hf _ hc)]
  exact ahead_trans o h1 h2
theorem bt_not (ho : o = 1 ∨ o = 2) (hf : AllFull xs) {a b : Nat} (ha : a < xs.length) (hb : b < xs.length) (hne : a ≠ b) : bt o xs a b = !bt o xs b a := by
  unfold bt
  rw [Bool.eq_iff_iff, beatsS_iff o ho _ _ _ _ (hf _ ha) (hf _ hb), Bool.not_eq_true', ← Bool.not_eq_true, beatsS_iff o ho _ _ _ _ (hf _ hb) (hf _ ha)]
  constructor
  · intro h1 h2; exact ahead_asymm o h1 h2
  · intro h; rcases ahead_total o (x := at' xs a) (y := at' xs b) hne with h1 | h1
    · exact h1
    · exact absurd h1 h
end

/-! ### 2. Places in the tree -/
/-- Node m lies at or below node n. -/
def Anc (n m : Nat) : Prop := ∃ e, m / 2 ^ e = n
theorem anc_self (n : Nat) : Anc n n := ⟨0, by simp⟩
theorem anc_up {n m : Nat} (h : Anc n m) : Anc (n / 2) m := by
  obtain ⟨e, rfl⟩ := h
  exact ⟨e + 1, by rw [Nat.pow_succ, Nat.div_div_eq_div_mul]⟩
theorem anc_half {n m : Nat} : Anc n m ↔ n = m ∨ Anc n (m / 2) := by
  constructor
  · rintro ⟨e, rfl⟩
    cases e with
    | zero => left; simp
    | succ e => right; exact ⟨e, by rw [Nat.pow_succ, Nat.div_div_eq_div_mul, Nat.mul_comm]⟩
  · rintro (rfl | ⟨e, rfl⟩)
    · exact anc_self _
    · exact ⟨e + 1, by rw [Nat.pow_succ, Nat.div_div_eq_div_mul, Nat.mul_comm]⟩
theorem anc_le {n m : Nat} (h : Anc n m) : n ≤ m := by
  obtain ⟨e, rfl⟩ := h
  exact Nat.div_le_self _ _
theorem anc_zero {n : Nat} (h : Anc n 0) : n = 0 := by have := anc_le h; omega
theorem anc_step {n m : Nat} (h : Anc n m) (hne : n ≠ m) : Anc (2 * n) m ∨ Anc (2 * n + 1) m := by
  obtain ⟨e, he⟩ := h
  cases e with
  | zero => simp at he; omega
  | succ e =>
    have : m / 2 ^ e / 2 = n := by rw [Nat.div_div_eq_div_mul, ← Nat.pow_succ]; exact he
    rcases Nat.mod_two_eq_zero_or_one (m / 2 ^ e) with h0 | h0
    · left; exact ⟨e, by omega⟩
    · right; exact ⟨e, by omega⟩
theorem anc_one : ∀ m, 1 ≤ m → Anc 1 m := by
  intro m
  induction m using Nat.strongRecOn with
  | ind m ih =>
    intro hm
    by_cases h : m = 1
    · subst h; exact anc_self 1
    · exact anc_half.2 (.inr (ih (m / 2) (by omega) (by omega)))
/-- The two nodes below one node have nothing in common. -/
theorem anc_apart : ∀ m n, 1 ≤ n → Anc (2 * n) m → Anc (2 * n + 1) m → False := by
  intro m
  induction m using Nat.strongRecOn with
  | ind m ih =>
    intro n hn h1 h2
    rcases anc_half.1 h1 with e1 | h1'
    · rcases anc_half.1 h2 with e2 | h2'
      · omega
      · have := anc_le h2'; omega
    · rcases anc_half.1 h2 with e2 | h2'
      · have := anc_le h1'; omega
      · have := anc_le h1'
        exact ih (m / 2) (by omega) n hn h1' h2'

/-! ### 3. Who wins below a node, and who loses there -/
/-- The winner of the matches below node n, of k sources. -/
def W (o : Int) (xs : List Src) (n : Nat) : Nat :=
  if h : n = 0 ∨ xs.length ≤ n then n - xs.length
  else
    let a := W o xs (2 * n)
    let b := W o xs (2 * n + 1)
    if bt o xs a b then a else b
termination_by xs.length - n
decreasing_by all_goals omega
def L (o : Int) (xs : List Src) (n : Nat) : Nat := if bt o xs (W o xs (2 * n)) (W o xs (2 * n + 1)) then W o xs (2 * n + 1) else W o xs (2 * n)
section
variable {o : Int} {xs : List Src}
theorem W_leaf {n : Nat} (h : xs.length ≤ n) : W o xs n = n - xs.length := by rw [W, dif_pos (Or.inr h)]
theorem W_node {n : Nat} (h1 : 1 ≤ n) (h2 : n < xs.length) : W o xs n = if bt o xs (W o xs (2 * n)) (W o xs (2 * n + 1)) then W o xs (2 * n) else W o xs (2 * n + 1) := by
  rw [W, dif_neg (by omega)]
/-- The winner is one of those below. -/
theorem W_in : ∀ d n, xs.length - n = d → 1 ≤ n → n < 2 * xs.length → W o xs n < xs.length ∧ Anc n (xs.length + W o xs n) := by
  intro d
  induction d using Nat.strongRecOn with
  | ind d ih =>
    intro n hd h1 h2
    by_cases h : xs.length ≤ n
    · rw [W_leaf h]
      exact ⟨by omega, by rw [show xs.length + (n - xs.length) = n from by omega]; exact anc_self n⟩
    · have ha := ih (xs.length - 2 * n) (by omega) (2 * n) rfl (by omega) (by omega)
      have hb := ih (xs.length - (2 * n + 1)) (by omega) (2 * n + 1) rfl (by omega) (by omega)
      rw [W_node h1 (by omega)]
      split
      · exact ⟨ha.1, by have := anc_up ha.2; rwa [show 2 * n / 2 = n from by omega] at this⟩
      · exact ⟨hb.1, by have := anc_up hb.2; rwa [show (2 * n + 1) / 2 = n from by omega] at this⟩
theorem W_lt {n : Nat} (h1 : 1 ≤ n) (h2 : n < 2 * xs.length) : W o xs n < xs.length := (W_in _ n rfl h1 h2).1
theorem W_anc {n : Nat} (h1 : 1 ≤ n) (h2 : n < 2 * xs.length) : Anc n (xs.length + W o xs n) := (W_in _ n rfl h1 h2).2
theorem L_lt {n : Nat} (h1 : 1 ≤ n) (h2 : n < xs.length) : L o xs n < xs.length := by
  unfold L
  split
  · exact W_lt (by omega) (by omega)
  · exact W_lt (by omega) (by omega)
/-- The winner below a node wins against all others there. -/
theorem W_min (ho : o = 1 ∨ o = 2) (hf : AllFull xs) : ∀ d n, xs.length - n = d → 1 ≤ n → n < 2 * xs.length → ∀ j, j < xs.length → Anc n (xs.length + j) → j = W o xs n ∨ bt o xs (W o xs n) j = true := by
  intro d
  induction d using Nat.strongRecOn with
  | ind d ih =>
    intro n hd h1 h2 j hj hanc
    by_cases h : xs.length ≤ n
    · left
      rw [W_leaf h]
      rcases anc_half.1 hanc with e | h'
      · omega
      · have := anc_le h'; omega
    · have ia := ih (xs.length - 2 * n) (by omega) (2 * n) rfl (by omega) (by omega) j hj
      have ib := ih (xs.length - (2 * n + 1)) (by omega) (2 * n + 1) rfl (by omega) (by omega) j hj
      have la : W o xs (2 * n) < xs.length := W_lt (by omega) (by omega)
      have lb : W o xs (2 * n + 1) < xs.length := W_lt (by omega) (by omega)
      have aa : Anc (2 * n) (xs.length + W o xs (2 * n)) := W_anc (by omega) (by omega)
      have ab : Anc (2 * n + 1) (xs.length + W o xs (2 * n + 1)) := W_anc (by omega) (by omega)
      have hne : W o xs (2 * n) ≠ W o xs (2 * n + 1) := fun e => anc_apart _ n h1 aa (by rw [e]; exact ab)
      rw [W_node h1 (by omega)]
      by_cases c : bt o xs (W o xs (2 * n)) (W o xs (2 * n + 1)) = true
      · rw [if_pos c]
        rcases anc_step hanc (by omega) with h' | h'
        · exact ia h'
        · rcases ib h' with e | h''
          · right; rw [e]; exact c
          · right; exact bt_trans ho hf la lb hj c h''
      · rw [if_neg c]
        have c' : bt o xs (W o xs (2 * n + 1)) (W o xs (2 * n)) = true := by
          rw [bt_not ho hf lb la (Ne.symm hne)]
          simpa using c
        rcases anc_step hanc (by omega) with h' | h'
        · rcases ia h' with e | h''
          · right; rw [e]; exact c'
          · right; exact bt_trans ho hf lb la hj c' h''
        · exact ib h'
theorem W_one (ho : o = 1 ∨ o = 2) (hf : AllFull xs) (hpos : 1 ≤ xs.length) (j : Nat) (hj : j < xs.length) : j = W o xs 1 ∨ bt o xs (W o xs 1) j = true :=
  W_min ho hf _ 1 rfl (by omega) (by omega) j hj (anc_one _ (by omega))
end

/-! ### 4. One source is fed anew -/
section
variable {o : Int} {xs ys : List Src} {i : Nat}
theorem bt_same (h : ∀ j, j ≠ i → at' ys j = at' xs j) {a b : Nat} (ha : a ≠ i) (hb : b ≠ i) : bt o ys a b = bt o xs a b := by
  unfold bt
  rw [h a ha, h b hb]
/-- Below nodes that the source does not lie below, nothing has turned. -/
theorem W_off (hl : ys.length = xs.length) (h : ∀ j, j ≠ i → at' ys j = at' xs j) : ∀ d n, xs.length - n = d → 1 ≤ n → n < 2 * xs.length → ¬ Anc n (xs.length + i) → W o ys n = W o xs n := by
  intro d
  induction d using Nat.strongRecOn with
  | ind d ih =>
    intro n hd h1 h2 hn
    by_cases hle : xs.length ≤ n
    · rw [W_leaf hle, W_leaf (by omega), hl]
    · have n1 : ¬ Anc (2 * n) (xs.length + i) := fun h' => hn (by have := anc_up h'; rwa [show 2 * n / 2 = n from by omega] at this)
      have n2 : ¬ Anc (2 * n + 1) (xs.length + i) := fun h' => hn (by have := anc_up h'; rwa [show (2 * n + 1) / 2 = n from by omega] at this)
      rw [W_node h1 (by omega), W_node h1 (by omega), ih _ (by omega) (2 * n) rfl (by omega) (by omega) n1, ih _ (by omega) (2 * n + 1) rfl (by omega) (by omega) n2]
      have a1 : W o xs (2 * n) ≠ i := fun e => n1 (by rw [← e]; exact W_anc (by omega) (by omega))
      have a2 : W o xs (2 * n + 1) ≠ i := fun e => n2 (by rw [← e]; exact W_anc (by omega) (by omega))
      rw [bt_same h a1 a2]
theorem L_off (hl : ys.length = xs.length) (h : ∀ j, j ≠ i → at' ys j = at' xs j) {n : Nat} (h1 : 1 ≤ n) (h2 : n < xs.length) (hn : ¬ Anc n (xs.length + i)) : L o ys n = L o xs n := by
  have n1 : ¬ Anc (2 * n) (xs.length + i) := fun h' => hn (by have := anc_up h'; rwa [show 2 * n / 2 = n from by omega] at this)
  have n2 : ¬ Anc (2 * n + 1) (xs.length + i) := fun h' => hn (by have := anc_up h'; rwa [show (2 * n + 1) / 2 = n from by omega] at this)
  have a1 : W o xs (2 * n) ≠ i := fun e => n1 (by rw [← e]; exact W_anc (by omega) (by omega))
  have a2 : W o xs (2 * n + 1) ≠ i := fun e => n2 (by rw [← e]; exact W_anc (by omega) (by omega))
  unfold L
  rw [W_off hl h _ (2 * n) rfl (by omega) (by omega) n1, W_off hl h _ (2 * n + 1) rfl (by omega) (by omega) n2, bt_same h a1 a2]
/-- Who wins at the root has won at every node above it. -/
theorem W_path (hpos : 1 ≤ xs.length) (hw : W o xs 1 = i) : ∀ n, 1 ≤ n → n < 2 * xs.length → Anc n (xs.length + i) → W o xs n = i := by
  intro n
  induction n using Nat.strongRecOn with
  | ind n ih =>
    intro h1 h2 hanc
    by_cases e1 : n = 1
    · subst e1; exact hw
    · have hup : W o xs (n / 2) = i := ih (n / 2) (by omega) (by omega) (by omega) (anc_up hanc)
      rw [W_node (by omega) (by omega)] at hup
      have aa : Anc (2 * (n / 2)) (xs.length + W o xs (2 * (n / 2))) := W_anc (by omega) (by omega)
      have ab : Anc (2 * (n / 2) + 1) (xs.length + W o xs (2 * (n / 2) + 1)) := W_anc (by omega) (by omega)
      by_cases c : bt o xs (W o xs (2 * (n / 2))) (W o xs (2 * (n / 2) + 1)) = true
      · rw [if_pos c] at hup
        rw [hup] at aa
        by_cases e : n = 2 * (n / 2)
        · rw [e]; exact hup
        · exact absurd hanc (fun h' => anc_apart _ (n / 2) (by omega) aa (by rwa [show 2 * (n / 2) + 1 = n from by omega]))
      · rw [if_neg c] at hup
        rw [hup] at ab
        by_cases e : n = 2 * (n / 2)
        · exact absurd hanc (fun h' => anc_apart _ (n / 2) (by omega) (by rwa [← e]) ab)
        · rw [show n = 2 * (n / 2) + 1 from by omega]; exact hup
end

/-! ### 5. Playing all matches -/
/-- What build answers, and the losers behind it. -/
def buildF (o : Int) (xs : List Src) (n : Nat) (l : List Nat) : Nat × List Nat :=
  if h : n = 0 ∨ xs.length ≤ n then (n - xs.length, l)
  else
    let p := buildF o xs (2 * n) l
    let q := buildF o xs (2 * n + 1) p.2
    if bt o xs p.1 q.1 then (p.1, q.2.set n q.1) else (q.1, q.2.set n p.1)
termination_by xs.length - n
decreasing_by all_goals omega
section
variable {o : Int} {xs : List Src}
theorem buildF_leaf {n : Nat} (h : xs.length ≤ n) (l : List Nat) : buildF o xs n l = (n - xs.length, l) := by rw [buildF, dif_pos (Or.inr h)]
theorem buildF_node {n : Nat} (h1 : 1 ≤ n) (h2 : n < xs.length) (l : List Nat) : buildF o xs n l =
    if bt o xs (buildF o xs (2 * n) l).1 (buildF o xs (2 * n + 1) (buildF o xs (2 * n) l).2).1 then ((buildF o xs (2 * n) l).1, (buildF o xs (2 * n + 1) (buildF o xs (2 * n) l).2).2.set n (buildF o xs (2 * n + 1) (buildF o xs (2 * n) l).2).1)
    else ((buildF o xs (2 * n + 1) (buildF o xs (2 * n) l).2).1, (buildF o xs (2 * n + 1) (buildF o xs (2 * n) l).2).2.set n (buildF o xs (2 * n) l).1) := by
  rw [buildF, dif_neg (by omega)]
theorem buildF_tells : ∀ d n l, xs.length - n = d → 1 ≤ n → n < 2 * xs.length → l.length = xs.length →
    (buildF o xs n l).1 = W o xs n ∧ (buildF o xs n l).2.length = xs.length ∧ (∀ m, m < xs.length → Anc n m → (buildF o xs n l).2.getD m 0 = L o xs m) ∧ (∀ m, ¬ Anc n m → (buildF o xs n l).2.getD m 0 = l.getD m 0) := by
  intro d
  induction d using Nat.strongRecOn with
  | ind d ih =>
    intro n l hd h1 h2 hl
    by_cases h : xs.length ≤ n
    · rw [buildF_leaf h, W_leaf h]
      exact ⟨rfl, hl, fun m hm ha => by have := anc_le ha; omega, fun m _ => rfl⟩
    · obtain ⟨a1, a2, a3, a4⟩ := ih _ (by omega) (2 * n) l rfl (by omega) (by omega) hl
      obtain ⟨b1, b2, b3, b4⟩ := ih _ (by omega) (2 * n + 1) (buildF o xs (2 * n) l).2 rfl (by omega) (by omega) a2
      have up1 : ∀ m, Anc (2 * n) m → Anc n m := fun m h' => by have := anc_up h'; rwa [show 2 * n / 2 = n from by omega] at this
      have up2 : ∀ m, Anc (2 * n + 1) m → Anc n m := fun m h' => by have := anc_up h'; rwa [show (2 * n + 1) / 2 = n from by omega] at this
      have key : ∀ v, v = L o xs n → (∀ m, m < xs.length → Anc n m → ((buildF o xs (2 * n + 1) (buildF o xs (2 * n) l).2).2.set n v).getD m 0 = L o xs m) ∧ (∀ m, ¬ Anc n m → ((buildF o xs (2 * n + 1) (buildF o xs (2 * n) l).2).2.set n v).getD m 0 = l.getD m 0) := by
        intro v hv
        refine ⟨fun m hm ha => ?_, fun m hn => ?_⟩
        · by_cases e : n = m
          · subst e
            rw [hv, List.getD_eq_getElem?_getD, List.getElem?_set_self (by rw [b2]; exact hm)]
            rfl
          · rw [List.getD_eq_getElem?_getD, List.getElem?_set_ne e, ← List.getD_eq_getElem?_getD]
            rcases anc_step ha e with h' | h'
            · rw [b4 m (fun h'' => anc_apart _ n h1 h' h''), a3 m hm h']
            · exact b3 m hm h'
        · have e : n ≠ m := fun e => hn (by rw [e]; exact anc_self _)
          rw [List.getD_eq_getElem?_getD, List.getElem?_set_ne e, ← List.getD_eq_getElem?_getD, b4 m (fun h' => hn (up2 m h')), a4 m (fun h' => hn (up1 m h'))]
      rw [buildF_node h1 (by omega), W_node h1 (by omega), a1, b1]
      have hL : L o xs n = if bt o xs (W o xs (2 * n)) (W o xs (2 * n + 1)) then W o xs (2 * n + 1) else W o xs (2 * n) := rfl
      by_cases c : bt o xs (W o xs (2 * n)) (W o xs (2 * n + 1)) = true
      · rw [if_pos c, if_pos c]
        rw [if_pos c] at hL
        exact ⟨rfl, by simpa using b2, key _ hL.symm⟩
      · rw [if_neg c, if_neg c]
        rw [if_neg c] at hL
        exact ⟨rfl, by simpa using b2, key _ hL.symm⟩
end

/-! ### 6. Playing one path anew -/
def replayF (o : Int) (xs : List Src) (n w : Nat) (l : List Nat) : Nat × List Nat :=
  if h : n = 0 then (w, l)
  else if bt o xs (l.getD n 0) w then replayF o xs (n / 2) (l.getD n 0) (l.set n w) else replayF o xs (n / 2) w l
termination_by n
decreasing_by all_goals omega
section
variable {o : Int} {xs ys : List Src} {i : Nat}
theorem replayF_zero (w : Nat) (l : List Nat) : replayF o xs 0 w l = (w, l) := by rw [replayF, dif_pos rfl]
theorem replayF_pos {n : Nat} (h : n ≠ 0) (w : Nat) (l : List Nat) : replayF o xs n w l = if bt o xs (l.getD n 0) w then replayF o xs (n / 2) (l.getD n 0) (l.set n w) else replayF o xs (n / 2) w l := by
  rw [replayF, dif_neg h]
/-- The path of source i, which had won, is played anew: behind it the whole tree is as if built anew. -/
theorem replayF_tells (ho : o = 1 ∨ o = 2) (hf : AllFull ys) (hpos : 1 ≤ xs.length) (hl : ys.length = xs.length) (hs : ∀ j, j ≠ i → at' ys j = at' xs j) (hw : W o xs 1 = i) :
    ∀ c w l, 1 ≤ c → c < 2 * xs.length → Anc c (xs.length + i) → w = W o ys c → l.length = xs.length →
      (∀ m, 1 ≤ m → m < xs.length → Anc m (c / 2) → l.getD m 0 = L o xs m) → (∀ m, 1 ≤ m → m < xs.length → ¬ Anc m (c / 2) → l.getD m 0 = L o ys m) →
      (replayF o ys (c / 2) w l).1 = W o ys 1 ∧ (replayF o ys (c / 2) w l).2.length = xs.length ∧ ∀ m, 1 ≤ m → m < xs.length → (replayF o ys (c / 2) w l).2.getD m 0 = L o ys m := by
  intro c
  induction c using Nat.strongRecOn with
  | ind c ih =>
    intro w l h1 h2 hanc hwc hll hold hnew
    by_cases e : c = 1
    · subst e
      rw [show 1 / 2 = 0 from rfl, replayF_zero]
      exact ⟨hwc, hll, fun m hm1 hm2 => hnew m hm1 hm2 (fun h' => by have := anc_zero h'; omega)⟩
    · obtain ⟨n, hn⟩ : ∃ n, n = c / 2 := ⟨_, rfl⟩
      rw [← hn] at hold hnew ⊢
      have n1 : 1 ≤ n := by omega
      have n2 : n < xs.length := by omega
      have ancn : Anc n (xs.length + i) := by rw [hn]; exact anc_up hanc
      -- the other node below n
      obtain ⟨s, hsib⟩ : ∃ s, (c = 2 * n ∧ s = 2 * n + 1) ∨ (c = 2 * n + 1 ∧ s = 2 * n) := by
        rcases Nat.mod_two_eq_zero_or_one c with h0 | h0
        · exact ⟨2 * n + 1, .inl ⟨by omega, rfl⟩⟩
        · exact ⟨2 * n, .inr ⟨by omega, rfl⟩⟩
      have s1 : 1 ≤ s := by omega
      have s2 : s < 2 * xs.length := by omega
      have soff : ¬ Anc s (xs.length + i) := by
        intro h'
        rcases hsib with ⟨e1, e2⟩ | ⟨e1, e2⟩
        · subst e1 e2; exact anc_apart _ n n1 hanc h'
        · subst e1 e2; exact anc_apart _ n n1 h' hanc
      have Wc : W o xs c = i := W_path hpos hw c (by omega) h2 hanc
      have Ws : W o ys s = W o xs s := W_off hl hs _ s rfl s1 s2 soff
      have Wn : W o xs n = i := W_path hpos hw n n1 (by omega) ancn
      have sne : W o xs s ≠ i := fun e' => soff (by rw [← e']; exact W_anc s1 s2)
      have hLold : L o xs n = W o xs s := by
        have hWn := W_node (o := o) n1 n2
        rw [Wn] at hWn
        unfold L
        rcases hsib with ⟨e1, e2⟩ | ⟨e1, e2⟩
        · subst e1 e2
          by_cases b : bt o xs (W o xs (2 * n)) (W o xs (2 * n + 1)) = true
          · rw [if_pos b]
          · rw [if_neg b] at hWn; exact absurd hWn.symm sne
        · subst e1 e2
          by_cases b : bt o xs (W o xs (2 * n)) (W o xs (2 * n + 1)) = true
          · rw [if_pos b] at hWn; exact absurd hWn.symm sne
          · rw [if_neg b]
      have hln : l.getD n 0 = W o ys s := by rw [hold n n1 n2 (anc_self n), hLold, Ws]
      have Wsl : W o ys s < ys.length := W_lt s1 (by omega)
      have Wcl : W o ys c < ys.length := W_lt h1 (by omega)
      have wne : W o ys s ≠ W o ys c := by
        have aa : Anc s (ys.length + W o ys s) := W_anc s1 (by omega)
        have ab : Anc c (ys.length + W o ys c) := W_anc h1 (by omega)
        intro e'
        rw [e'] at aa
        rcases hsib with ⟨e1, e2⟩ | ⟨e1, e2⟩
        · subst e1 e2; exact anc_apart _ n n1 ab aa
        · subst e1 e2; exact anc_apart _ n n1 aa ab
      have hWn : W o ys n = if bt o ys (W o ys s) (W o ys c) then W o ys s else W o ys c := by
        rw [W_node n1 (by omega)]
        rcases hsib with ⟨e1, e2⟩ | ⟨e1, e2⟩
        · subst e2 e1
          rw [bt_not ho hf Wcl Wsl (Ne.symm wne)]
          cases bt o ys (W o ys (2 * n + 1)) (W o ys (2 * n)) <;> simp
        · subst e2 e1
          rfl
      have hLn : L o ys n = if bt o ys (W o ys s) (W o ys c) then W o ys c else W o ys s := by
        unfold L
        rcases hsib with ⟨e1, e2⟩ | ⟨e1, e2⟩
        · subst e2 e1
          rw [bt_not ho hf Wcl Wsl (Ne.symm wne)]
          cases bt o ys (W o ys (2 * n + 1)) (W o ys (2 * n)) <;> simp
        · subst e2 e1
          rfl
      rw [replayF_pos (by omega), hln, hwc]
      have stepo : ∀ v m, 1 ≤ m → m < xs.length → Anc m (n / 2) → (l.set n v).getD m 0 = L o xs m := by
        intro v m hm1 hm2 ha
        have := anc_le ha
        rw [List.getD_eq_getElem?_getD, List.getElem?_set_ne (by omega), ← List.getD_eq_getElem?_getD]
        exact hold m hm1 hm2 (anc_half.2 (.inr ha))
      have stepn : ∀ v, v = L o ys n → ∀ m, 1 ≤ m → m < xs.length → ¬ Anc m (n / 2) → (l.set n v).getD m 0 = L o ys m := by
        intro v hv m hm1 hm2 hna
        by_cases e' : n = m
        · subst e'
          rw [hv, List.getD_eq_getElem?_getD, List.getElem?_set_self (by omega)]
          rfl
        · rw [List.getD_eq_getElem?_getD, List.getElem?_set_ne e', ← List.getD_eq_getElem?_getD]
          exact hnew m hm1 hm2 (fun h' => by rcases anc_half.1 h' with e'' | h''; exact e' e''.symm; exact hna h'')
      have lself : l.set n (l.getD n 0) = l := by
        rw [List.getD_eq_getElem?_getD, List.getElem?_eq_getElem (by omega)]
        simp
      by_cases b : bt o ys (W o ys s) (W o ys c) = true
      · rw [if_pos b] at hWn hLn ⊢
        exact ih n (by omega) (W o ys s) (l.set n (W o ys c)) n1 (by omega) ancn hWn.symm (by simpa using hll) (stepo _) (stepn _ hLn.symm)
      · rw [if_neg b] at hWn hLn ⊢
        have h3 := stepo (l.getD n 0)
        have h4 := stepn (l.getD n 0) (by rw [hln, hLn])
        rw [lself] at h3 h4
        exact ih n (by omega) (W o ys c) l n1 (by omega) ancn hWn.symm hll h3 h4
end
end Go.Proofs.Ytgcfpepaapdjoaa
