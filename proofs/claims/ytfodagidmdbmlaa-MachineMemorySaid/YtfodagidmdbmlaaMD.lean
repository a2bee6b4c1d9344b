/- Do. -/
import Derived.Test.YtfodagidmdbmlaaMX
namespace Go.Proofs.Ytfodagidmdbmlaa
set_option linter.unusedVariables false
set_option linter.unusedSimpArgs false
open Go.RowKit

def Run.add (r : Run) (o : MOp) (t : Int) : Run := { r with ops := r.ops ++ [o], times := r.times ++ [t] }
def tick (M : Mach) (g : Int) : Mach := { M with clock := M.clock + 1 + g }
def curJ (M : Mach) (k : Nat) : Nat := ((M.sess.getD k (none, 0)).1).getD 0
def curR (M : Mach) (k : Nat) : Run := M.all.getD (curJ M k) Run.zero
def putR (M : Mach) (j : Nat) (r : Run) : Mach := { M with all := M.all.set j r }
def zAns : Bool × ByteArray × Int := (false, ⟨#[]⟩, 0)
/-- Do. -/
def doF (M : Mach) (s : MStep) : Mach × (Bool × ByteArray × Int) × Int :=
  if refuseF M s ≠ 0 then (M, zAns, refuseF M s) else
  let k := s.session.toNat
  let M1 := tick M s.gap
  if s.kind = 1 then ({ M1 with sess := M1.sess.set k (some M1.all.length, (M.sess.getD k (none, 0)).2 + 1), all := M1.all ++ [⟨s.session, (M.sess.getD k (none, 0)).2, M1.clock, 0, M.clock, 0, 0, [], []⟩] }, zAns, 0)
  else if s.kind = 2 then (putR M1 (curJ M k) ((curR M k).add ⟨1, s.key, (readF M1 (curJ M k) (curR M k) s.key).2, (readF M1 (curJ M k) (curR M k) s.key).1⟩ M1.clock), ((readF M1 (curJ M k) (curR M k) s.key).2, (readF M1 (curJ M k) (curR M k) s.key).1, 0), 0)
  else if s.kind = 3 then (putR M1 (curJ M k) ((curR M k).add ⟨2, s.key, true, s.value⟩ M1.clock), zAns, 0)
  else if s.kind = 4 then (putR M1 (curJ M k) ((curR M k).add ⟨3, s.key, false, ⟨#[]⟩⟩ M1.clock), zAns, 0)
  else if s.kind = 5 then (finF M1 k (curJ M k) (passF M1 (curR M k)), (false, ⟨#[]⟩, if passF M1 (curR M k) then 1 else 0), 0)
  else (finF M1 k (curJ M k) false, zAns, 0)
def ansV (a : Bool × ByteArray × Int) (e : Int) : Value := .tuple #[.agg #[.bool a.1, .string a.2.1, .int .i64 a.2.2], .int .i64 e]
/-- What Do leaves. -/
def DoPost (w : World) (m : Nat) (M : Mach) (gs p : Nat) (lv : Value) (pl : List Pl) (Fs : Nat → Prop) (s : MStep) (e : Ending) (w' : World) : Prop :=
  e = .returned (ansV (doF M s).2.1 (doF M s).2.2) ∧ ∃ lv' pl' Fs' N', MachAt w' m (doF M s).1 gs p lv' pl' Fs' N' ∧ N' ≤ 16 * (doF M s).1.ends.length ∧ (∀ i, MF m gs lv' pl' Fs' i → MF m gs lv pl Fs i ∨ w.heap.size ≤ i) ∧ Turn (MF m gs lv pl Fs) w w'
/-- How many sessions have a transaction under way. -/
def nAct (l : List (Option Nat × Int)) : Nat := (l.filter fun x => x.1.isSome).length
/-- What always holds, besides. -/
structure MOK (M : Mach) : Prop where
  inv : MInv M
  live : ∀ (s j : Nat) (q : Int), M.sess[s]? = some (some j, q) → j ∉ M.ends
  bal : M.ends.length + nAct M.sess = M.all.length
  endl : ∀ i ∈ M.ends, i < M.all.length
  seqb : ∀ (s : Nat) (o : Option Nat) (q : Int), M.sess[s]? = some (o, q) → 0 ≤ q ∧ q ≤ M.all.length
theorem MOK.ends {M : Mach} (h : MOK M) : M.ends.length ≤ M.all.length := by have := h.bal; omega
set_option maxRecDepth 100000 in
set_option maxHeartbeats 8000000 in
theorem do_refused (m : Nat) (M : Mach) (gs p : Nat) (lv : Value) (pl : List Pl) (Fs : Nat → Prop) (N : Nat) (s : MStep) (w : World) (h : MachAt w m M gs p lv pl Fs N) (hi : MOK M) (hN : N ≤ 16 * M.ends.length) (hk : s.key.size ≤ maxLen) (hv : s.value.size ≤ maxLen) (hr : refuseF M s ≠ 0) :
    Calls Try.prog 14 #[.pointer (some ⟨m, 0, none⟩), .agg #[.int .i64 s.kind, .int .i64 s.session, .int .i64 s.gap, .string s.key, .string s.value]] w (DoPost w m M gs p lv pl Fs s) := by
  obtain ⟨kd, se, ga, ky, va⟩ := s
  simp only at hr hk hv
  have hb1 := (Below.refl w.heap.size w).alloc (Nat.le_refl _) (.cells #[.int .i64 kd, .int .i64 se, .int .i64 ga, .string ky, .string va] 29)
  have hb0 := hb1.alloc hb1.size (.cells #[.bool false, .string ⟨#[]⟩, .int .i64 0] 31)
  have rb0 := (RowAt.new w 29 [.int .i64 kd, .int .i64 se, .int .i64 ga, .string ky, .string va]).alloc (.cells #[.bool false, .string ⟨#[]⟩, .int .i64 0] 31)
  have rr0 := RowAt.new' (w.alloc (.cells #[.int .i64 kd, .int .i64 se, .int .i64 ga, .string ky, .string va] 29)) (w.heap.size + 1) 31 [.bool false, .string ⟨#[]⟩, .int .i64 0] (by simp)
  have d0 := rb0.cell 0
  have d1 := rb0.cell 1
  have d2 := rb0.cell 2
  have d3 := rb0.cell 3
  have d4 := rb0.cell 4
  simp only [List.getElem?_cons_zero, List.getElem?_cons_succ] at d0 d1 d2 d3 d4
  have hel : M.ends.length ≤ 4096 := Nat.le_trans hi.ends hi.inv.cnt
  have H := Lib.hid h
  have HI := Lib.hid hi.inv
  have HOK := Lib.hid hi
  have HEL := Lib.hid hel
  have HNN := Lib.hid hN
  have H0 := Lib.hid (h.below hb0)
  have B0 := Lib.hid hb0
  have RB0 := Lib.hid rb0
  have RR0 := Lib.hid rr0
  have HK := Lib.hid hk
  have HV := Lib.hid hv
  clear h hi hel hN hb1 hb0 rb0 rr0 hk hv
  go_enter Try.func14, Try.ntmps14
  go_wp2_with fail
  refine (refuse_any m M gs p lv pl Fs N ⟨kd, se, ga, ky, va⟩ _ H0.out HI.out HK.out HV.out).mono ?_
  rintro e w1 ⟨he, b1⟩
  have B1 := Lib.hid (B0.out.trans (b1.mono B0.out.size))
  have H1 := Lib.hid (H0.out.below b1)
  have RB1 := Lib.hid (RB0.out.below b1)
  have RR1 := Lib.hid (RR0.out.below b1)
  have HT1 := Lib.hid (Turn.of_below B1.out (MF m gs lv pl Fs))
  clear b1 d0 d1 d2 d3 d4
  obtain ⟨f, hf⟩ : ∃ z, z = refuseF M ⟨kd, se, ga, ky, va⟩ := ⟨_, rfl⟩
  rw [← hf] at he hr
  subst he
  have hfe : (f == 0) = false := by simpa using hr
  have HD := Lib.hid (show doF M ⟨kd, se, ga, ky, va⟩ = (M, zAns, f) by unfold doF; rw [← hf, if_pos hr])
  have zc := RR1.out.cell
  have zf := RR1.out.frozen
  clear hf
  go_wp2
  have r9 := (RR1.out.wset [.bool false, .string ⟨#[]⟩, .int .i64 0] 0).congr (cs' := [.bool false, .string ⟨#[]⟩, .int .i64 0]) rfl
  refine bodyPost_ret (results_ct (T := 31) Try.results14 _ rfl r9 Try.underlying31 rfl (by kernel_rfl)) rfl ?_
  have hb2 := (((B1.out.setCell (p := ⟨w.heap.size + 1, 0, none⟩) (Nat.le_succ _) (.bool false)).setCell (p := ⟨w.heap.size + 1, 1, none⟩) (Nat.le_succ _) (.string ⟨#[]⟩)).setCell (p := ⟨w.heap.size + 1, 2, none⟩) (Nat.le_succ _) (.int .i64 0))
  unfold DoPost
  rw [HD.out]
  exact ⟨rfl, lv, pl, Fs, N, H.out.below hb2, HNN.out, fun i hi => .inl hi, Turn.of_below hb2 _⟩
theorem refuse_zero {M : Mach} {s : MStep} (h : refuseF M s = 0) : formF M.sess.length s = 0 ∧ ((s.kind = 1 ∧ (M.sess.getD s.session.toNat (none, 0)).1 = none ∧ M.all.length < 4096) ∨ (s.kind ≠ 1 ∧ ∃ j, (M.sess.getD s.session.toNat (none, 0)).1 = some j ∧ ((2 ≤ s.kind ∧ s.kind ≤ 4) → (M.all.getD j Run.zero).ops.length < 16))) ∧ M.clock + 1 + s.gap ≤ 1099511627776 := by
  unfold refuseF at h
  by_cases h1 : formF M.sess.length s ≠ 0
  · rw [if_pos h1] at h
    exact absurd h h1
  rw [if_neg h1] at h
  simp only at h
  refine ⟨by simpa using h1, ?_⟩
  by_cases h2 : s.kind = 1 ∧ (M.sess.getD s.session.toNat (none, 0)).1 ≠ none
  · rw [if_pos h2] at h; cases h
  rw [if_neg h2] at h
  by_cases h3 : s.kind ≠ 1 ∧ (M.sess.getD s.session.toNat (none, 0)).1 = none
  · rw [if_pos h3] at h; cases h
  rw [if_neg h3] at h
  by_cases h4 : s.kind = 1 ∧ 4096 ≤ M.all.length
  · rw [if_pos h4] at h; cases h
  rw [if_neg h4] at h
  by_cases h5 : (2 ≤ s.kind ∧ s.kind ≤ 4) ∧ 16 ≤ (M.all.getD ((M.sess.getD s.session.toNat (none, 0)).1.getD 0) Run.zero).ops.length
  · rw [if_pos h5] at h; cases h
  rw [if_neg h5] at h
  by_cases h6 : 1099511627776 < M.clock + 1 + s.gap
  · rw [if_pos h6] at h; cases h
  refine ⟨?_, by omega⟩
  by_cases hk : s.kind = 1
  · left
    refine ⟨hk, Classical.byContradiction fun hn => h2 ⟨hk, hn⟩, Classical.byContradiction fun hn => h4 ⟨hk, by omega⟩⟩
  · right
    refine ⟨hk, ?_⟩
    cases e : (M.sess.getD s.session.toNat (none, 0)).1 with
    | none => exact absurd ⟨hk, e⟩ h3
    | some j =>
      refine ⟨j, rfl, fun hh => Classical.byContradiction fun hn => h5 ⟨hh, ?_⟩⟩
      rw [e]
      show 16 ≤ (M.all.getD j Run.zero).ops.length
      omega
theorem doF_rest {M : Mach} {s : MStep} (h : refuseF M s = 0) : doF M s = (
  if s.kind = 1 then ({ tick M s.gap with sess := M.sess.set s.session.toNat (some M.all.length, (M.sess.getD s.session.toNat (none, 0)).2 + 1), all := M.all ++ [⟨s.session, (M.sess.getD s.session.toNat (none, 0)).2, (tick M s.gap).clock, 0, M.clock, 0, 0, [], []⟩] }, zAns, 0)
  else if s.kind = 2 then (putR (tick M s.gap) (curJ M s.session.toNat) ((curR M s.session.toNat).add ⟨1, s.key, (readF (tick M s.gap) (curJ M s.session.toNat) (curR M s.session.toNat) s.key).2, (readF (tick M s.gap) (curJ M s.session.toNat) (curR M s.session.toNat) s.key).1⟩ (tick M s.gap).clock), ((readF (tick M s.gap) (curJ M s.session.toNat) (curR M s.session.toNat) s.key).2, (readF (tick M s.gap) (curJ M s.session.toNat) (curR M s.session.toNat) s.key).1, 0), 0)
  else if s.kind = 3 then (putR (tick M s.gap) (curJ M s.session.toNat) ((curR M s.session.toNat).add ⟨2, s.key, true, s.value⟩ (tick M s.gap).clock), zAns, 0)
  else if s.kind = 4 then (putR (tick M s.gap) (curJ M s.session.toNat) ((curR M s.session.toNat).add ⟨3, s.key, false, ⟨#[]⟩⟩ (tick M s.gap).clock), zAns, 0)
  else if s.kind = 5 then (finF (tick M s.gap) s.session.toNat (curJ M s.session.toNat) (passF (tick M s.gap) (curR M s.session.toNat)), (false, ⟨#[]⟩, if passF (tick M s.gap) (curR M s.session.toNat) then 1 else 0), 0)
  else (finF (tick M s.gap) s.session.toNat (curJ M s.session.toNat) false, zAns, 0)) := by
  show (if refuseF M s ≠ 0 then _ else _) = _
  rw [if_neg (by rw [h]; simp)]
  rfl
theorem doF_1 {M : Mach} {s : MStep} (h : refuseF M s = 0) (hk : s.kind = 1) {k : Nat} (hs : s.session.toNat = k) {sq : Int} (hq : (M.sess.getD k (none, 0)).2 = sq) : doF M s = ({ tick M s.gap with sess := M.sess.set k (some M.all.length, sq + 1), all := M.all ++ [⟨s.session, sq, (tick M s.gap).clock, 0, M.clock, 0, 0, [], []⟩] }, zAns, 0) := by
  subst hq
  subst hs
  rw [doF_rest h, if_pos hk]
theorem doF_2 {M : Mach} {s : MStep} (h : refuseF M s = 0) (hk : s.kind = 2) {k j : Nat} (hs : s.session.toNat = k) {r : Run} (hj : curJ M k = j) (hr : curR M k = r) {v : ByteArray × Bool} (hv : readF (tick M s.gap) j r s.key = v) : doF M s = (putR (tick M s.gap) j (r.add ⟨1, s.key, v.2, v.1⟩ (tick M s.gap).clock), (v.2, v.1, 0), 0) := by
  subst hv
  subst hr
  subst hj
  subst hs
  rw [doF_rest h, if_neg (by rw [hk]; decide), if_pos hk]
theorem doF_3 {M : Mach} {s : MStep} (h : refuseF M s = 0) (hk : s.kind = 3) {k j : Nat} (hs : s.session.toNat = k) {r : Run} (hj : curJ M k = j) (hr : curR M k = r) : doF M s = (putR (tick M s.gap) j (r.add ⟨2, s.key, true, s.value⟩ (tick M s.gap).clock), zAns, 0) := by
  subst hr
  subst hj
  subst hs
  rw [doF_rest h, if_neg (by rw [hk]; decide), if_neg (by rw [hk]; decide), if_pos hk]
theorem doF_4 {M : Mach} {s : MStep} (h : refuseF M s = 0) (hk : s.kind = 4) {k j : Nat} (hs : s.session.toNat = k) {r : Run} (hj : curJ M k = j) (hr : curR M k = r) : doF M s = (putR (tick M s.gap) j (r.add ⟨3, s.key, false, ⟨#[]⟩⟩ (tick M s.gap).clock), zAns, 0) := by
  subst hr
  subst hj
  subst hs
  rw [doF_rest h, if_neg (by rw [hk]; decide), if_neg (by rw [hk]; decide), if_neg (by rw [hk]; decide), if_pos hk]
theorem doF_5 {M : Mach} {s : MStep} (h : refuseF M s = 0) (hk : s.kind = 5) {k j : Nat} (hs : s.session.toNat = k) {r : Run} (hj : curJ M k = j) (hr : curR M k = r) {b : Bool} (hb : passF (tick M s.gap) r = b) : doF M s = (finF (tick M s.gap) k j b, (false, ⟨#[]⟩, if b then 1 else 0), 0) := by
  subst hb
  subst hr
  subst hj
  subst hs
  rw [doF_rest h, if_neg (by rw [hk]; decide), if_neg (by rw [hk]; decide), if_neg (by rw [hk]; decide), if_neg (by rw [hk]; decide), if_pos hk]
theorem doF_6 {M : Mach} {s : MStep} (h : refuseF M s = 0) (hk : s.kind = 6) {k j : Nat} (hs : s.session.toNat = k) (hj : curJ M k = j) : doF M s = (finF (tick M s.gap) k j false, zAns, 0) := by
  subst hj
  subst hs
  rw [doF_rest h, if_neg (by rw [hk]; decide), if_neg (by rw [hk]; decide), if_neg (by rw [hk]; decide), if_neg (by rw [hk]; decide), if_neg (by rw [hk]; decide)]
theorem tick_inv {M : Mach} {g : Int} (h : MInv M) (h0 : 0 ≤ g) (h1 : M.clock + 1 + g ≤ 1099511627776) : MInv (tick M g) := by
  have hc := h.c0
  refine ⟨?_, h1, h.cnt, h.n0, h.ops, h.keys, h.inc, fun k x hx => ?_, h.now⟩
  · show 0 ≤ M.clock + 1 + g
    omega
  · have := h.top k x hx
    show x.commit ≤ M.clock + 1 + g
    omega

end Go.Proofs.Ytfodagidmdbmlaa
