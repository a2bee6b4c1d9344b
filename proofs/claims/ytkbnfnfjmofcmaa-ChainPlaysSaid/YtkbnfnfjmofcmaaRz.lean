/- step: every kind. -/
import Derived.Test.YtkbnfnfjmofcmaaRf
import Derived.Test.YtkbnfnfjmofcmaaRy
namespace Go.Proofs.Ytkbnfnfjmofcmaa
set_option linter.unusedVariables false
set_option linter.unusedSimpArgs false
open Go.RowKit

/-- Store and list, and a block that neither holds. -/
def BothG (g B : Nat) (w : World) (p r N M : Nat) (s : Store) (all : List RV) : Prop := ∃ F G, SAt F w p s.1 N s.2 ∧ RAt G w r M all ∧ (∀ i, F i → ¬ G i) ∧ (∀ i, F i → B ≤ i) ∧ (∀ i, G i → B ≤ i) ∧ ¬ F g ∧ ¬ G g ∧ g < w.heap.size
theorem BothG.both {g B : Nat} {w : World} {p r N M : Nat} {s : Store} {all : List RV} (h : BothG g B w p r N M s all) : Both B w p r N M s all := by
  obtain ⟨F, G, h1, h2, h3, h4, h5, -⟩ := h
  exact ⟨F, G, h1, h2, h3, h4, h5⟩
theorem Both.fresh {B : Nat} {w w' : World} {p r N M : Nat} {s : Store} {all : List RV} (h : Both B w p r N M s all) (hb : Below w.heap.size w w') (hl : w.heap.size < w'.heap.size) : BothG w.heap.size B w' p r N M s all := by
  obtain ⟨F, G, h1, h2, h3, h4, h5⟩ := h
  exact ⟨F, G, h1.below hb, h2.below hb, h3, h4, h5, fun hh => absurd (h1.flt _ hh) (by omega), fun hh => absurd (h2.flt _ hh) (by omega), hl⟩
theorem both_installG (g B p r N M : Nat) (s : Store) (all : List RV) (k : ByteArray) (v : Ver) (w : World) (T : TypeId) (cs : List Value) (h : BothG g B w p r N M s all) (hr : RowAt w g T cs) (hB : B ≤ w.heap.size) (hk : k.size ≤ maxLen) (hN : N < 3000000000000) :
    Calls Try.prog 15 #[.pointer (some ⟨p, 0, none⟩), .string k, .agg #[.int .i64 v.commit, .int .i64 v.writer, .bool v.found, .string v.value]] w fun e w' => e = .returned (.int .i64 (refuse k v (s.2 k))) ∧ Both B w' p r (N + 1) M (play1 s k v) all ∧ Below B w w' ∧ RowAt w' g T cs := by
  obtain ⟨F, G, h1, h2, h3, h4, h5, h6, h7, h8⟩ := h
  refine (install_play F p N s k v w h1 hk hN).mono fun e w' ⟨he, F', a1, a2, a3⟩ => ⟨he, ⟨F', G, a1, (h2.turn a3 fun i hi hh => h3 i hh hi), fun i hi hh => ?_, fun i hi => ?_, h5⟩, a3.below hB fun i hi hF => ?_, hr.turn a3 h6⟩
  · rcases a2 i hi with h | h
    · exact h3 i h hh
    · have := h2.flt i hh
      omega
  · rcases a2 i hi with h | h
    · exact h4 i h
    · omega
  · have := h4 i hF
    omega
set_option maxRecDepth 100000 in
set_option maxHeartbeats 4000000 in
theorem step_none (p r : Nat) (o : Op) (w : World) (h1 : o.kind ≠ 1) (h2 : o.kind ≠ 2) (h3 : o.kind ≠ 3) (h4 : o.kind ≠ 4) (h5 : o.kind ≠ 5) (h6 : o.kind ≠ 6) :
    Calls Try.prog 19 #[.pointer (some ⟨p, 0, none⟩), .pointer (some ⟨r, 0, none⟩), .agg #[.int .i64 o.kind, .int .i64 o.time, .string o.key, .int .i64 o.v.commit, .int .i64 o.v.writer, .bool o.v.found, .string o.v.value]] w fun e w' => e = .returned (.bool true) ∧ Below w.heap.size w w' := by
  obtain ⟨kd, tm, ky, ⟨vc, vw, vf, vv⟩⟩ := o
  have hba := (Below.refl w.heap.size w).alloc (Nat.le_refl _) (.cells #[.int .i64 kd, .int .i64 tm, .string ky, .int .i64 vc, .int .i64 vw, .bool vf, .string vv] 35)
  have e1 : (kd == 1) = false := by simpa using h1
  have e2 : (kd == 2) = false := by simpa using h2
  have e3 : (kd == 3) = false := by simpa using h3
  have e4 : (kd == 4) = false := by simpa using h4
  have e5 : (kd == 5) = false := by simpa using h5
  have e6 : (kd == 6) = false := by simpa using h6
  clear h1 h2 h3 h4 h5 h6
  go_enter Try.func19, Try.ntmps19
  go_wp2_with fail
  go_ret
  exact ⟨rfl, hba⟩
set_option maxRecDepth 100000 in
set_option maxHeartbeats 4000000 in
theorem step_install (B p r N M : Nat) (s : Store) (all : List RV) (t : Int) (k : ByteArray) (v : Ver) (w : World) (h : Both B w p r N M s all) (hsim : Sim s all) (hB : B ≤ w.heap.size) (hk : k.size ≤ maxLen) (hv : v.value.size ≤ maxLen) (hN : N < 3000000000000) (hM : M < 2300000000000) :
    Calls Try.prog 19 #[.pointer (some ⟨p, 0, none⟩), .pointer (some ⟨r, 0, none⟩), .agg #[.int .i64 1, .int .i64 t, .string k, .int .i64 v.commit, .int .i64 v.writer, .bool v.found, .string v.value]] w fun e w' => e = .returned (.bool true) ∧ ∃ s' all', Both B w' p r (N + 1) (M + 1) s' all' ∧ Sim s' all' ∧ ((∀ x ∈ all, x.key.size ≤ 8) → ∀ x ∈ all', x.key.size ≤ 8) ∧ Below B w w' := by
  obtain ⟨vc, vw, vf, vv⟩ := v
  have hba := (Below.refl w.heap.size w).alloc (Nat.le_refl _) (.cells #[.int .i64 1, .int .i64 t, .string k, .int .i64 vc, .int .i64 vw, .bool vf, .string vv] 35)
  have rba := RowAt.new w 35 [.int .i64 1, .int .i64 t, .string k, .int .i64 vc, .int .i64 vw, .bool vf, .string vv]
  obtain ⟨W0, hW0⟩ : ∃ WW : World, WW = w.alloc (.cells #[.int .i64 1, .int .i64 t, .string k, .int .i64 vc, .int .i64 vw, .bool vf, .string vv] 35) := ⟨_, rfl⟩
  rw [show (Obj.cells (List.toArray [.int .i64 1, .int .i64 t, .string k, .int .i64 vc, .int .i64 vw, .bool vf, .string vv]) 35) = .cells #[.int .i64 1, .int .i64 t, .string k, .int .i64 vc, .int .i64 vw, .bool vf, .string vv] 35 from rfl, ← hW0] at rba
  rw [← hW0] at hba
  have hsz : w.heap.size < W0.heap.size := rba.lt
  have HG := Lib.hid (h.fresh hba hsz)
  have HB := Lib.hid ((Below.refl B w).trans (hba.mono hB))
  have RB := Lib.hid rba
  have HW0 := Lib.hid hW0
  have HSIM := Lib.hid hsim
  have HK := Lib.hid hk
  have HV := Lib.hid hv
  have hB0 : B ≤ W0.heap.size := by omega
  clear hba rba h hsim hk hv hW0
  go_enter Try.func19, Try.ntmps19
  go_wp2_with fail
  rw [← HW0.out]
  refine (both_installG w.heap.size B p r N M s all k ⟨vc, vw, vf, vv⟩ _ 35 _ HG.out RB.out hB0 HK.out hN).mono ?_
  rintro e w1 ⟨rfl, t1, b1, r1⟩
  rw [HSIM.out.refuse]
  obtain ⟨rr, hrr⟩ : ∃ z, z = refR k ⟨vc, vw, vf, vv⟩ all := ⟨_, rfl⟩
  rw [← hrr]
  have HRR := Lib.hid hrr
  have T1 := Lib.hid t1
  have B1 := Lib.hid (HB.out.trans b1)
  have c2 := r1.cell 2
  have c3 := r1.cell 3
  have c4 := r1.cell 4
  have c5 := r1.cell 5
  have c6 := r1.cell 6
  simp only [List.getElem?_cons_zero, List.getElem?_cons_succ] at c2 c3 c4 c5 c6
  have hqq : (rr == rr) = true := by simp
  clear t1 b1 r1 hrr
  go_wp2_with fail
  refine (with_any k ⟨vc, vw, vf, vv⟩ _).mono ?_
  rintro e w2 ⟨rfl, b2⟩
  have T2 := Lib.hid (T1.out.below b2)
  have B2 := Lib.hid (B1.out.trans (b2.mono (Nat.le_trans hB B1.out.size)))
  clear b2 c2 c3 c4 c5 c6
  go_wp2_with fail
  refine (both_rinstall B p r (N + 1) M _ all k ⟨vc, vw, vf, vv⟩ _ T2.out (Nat.le_trans hB B2.out.size) HK.out HV.out hM).mono ?_
  rintro e w3 ⟨he, t3, b3⟩
  rw [← HRR.out] at he
  subst he
  have T3 := Lib.hid t3
  have B3 := Lib.hid (B2.out.trans b3)
  have S3 := Lib.hid (HSIM.out.play k ⟨vc, vw, vf, vv⟩)
  clear t3 b3
  go_wp2_with fail
  go_ret
  exact ⟨rfl, _, _, T3.out, S3.out, fun hs => rput_small hs, B3.out⟩
theorem both_pruneG (g B p r N M : Nat) (s : Store) (all : List RV) (t : Int) (w : World) (T : TypeId) (cs : List Value) (h : BothG g B w p r N M s all) (hr : RowAt w g T cs) (hB : B ≤ w.heap.size) (hN : N < 3000000000000) (hg : Good s) :
    Calls Try.prog 16 #[.pointer (some ⟨p, 0, none⟩), .int .i64 t] w fun e w' => ∃ G : Nat, e = .returned (.int .i64 G) ∧ G ≤ s.1 ∧ Good (s.1 - G, prnS t s.2) ∧ Both B w' p r N M (s.1 - G, prnS t s.2) all ∧ Below B w w' ∧ RowAt w' g T cs := by
  obtain ⟨F, G, h1, h2, h3, h4, h5, h6, h7, h8⟩ := h
  refine (prune_any F p s.1 N t s.2 w h1 hN (fun k => (hg.inc k).rising) hg.total).mono fun e w' ⟨X, he, hG, hT, ⟨F', a1, a2⟩, a3⟩ => ⟨X, he, hG, ⟨fun k => prn_inc (hg.inc k) t, hT⟩, ⟨F', G, a1, (h2.turn a3 fun i hi hh => h3 i hh hi), fun i hi hh => ?_, fun i hi => ?_, h5⟩, a3.below hB fun i hi hF => ?_, hr.turn a3 h6⟩
  · rcases a2 i hi with h | h
    · exact h3 i h hh
    · have := h2.flt i hh
      omega
  · rcases a2 i hi with h | h
    · exact h4 i h
    · omega
  · have := h4 i hF
    omega
theorem both_rprune (B p r N M : Nat) (s : Store) (all : List RV) (t : Int) (w : World) (h : Both B w p r N M s all) (hB : B ≤ w.heap.size) (hM : M < 2300000000000) :
    Calls Try.prog 34 #[.pointer (some ⟨r, 0, none⟩), .int .i64 t] w fun e w' => e = .returned (.int .i64 ((all.length : Int) - ((keptR all t all).length : Int))) ∧ Both B w' p r N M s (keptR all t all) ∧ Below B w w' := by
  obtain ⟨F, G, h1, h2, h3, h4, h5⟩ := h
  refine (rprune_any G r M all t w h2 hM).mono fun e w' ⟨he, G', a1, a2, a3⟩ => ⟨he, ⟨F, G', (h1.turn a3 fun i hi hh => h3 i hi hh), a1, fun i hi hh => ?_, h4, fun i hi => ?_⟩, a3.below hB fun i hi hF => ?_⟩
  · rcases a2 i hh with h | h
    · exact h3 i hi h
    · have := h1.flt i hi
      omega
  · rcases a2 i hi with h | h
    · exact h5 i h
    · omega
  · have := h5 i hF
    omega
set_option maxRecDepth 100000 in
set_option maxHeartbeats 4000000 in
theorem step_prune (B p r N M : Nat) (s : Store) (all : List RV) (t : Int) (k : ByteArray) (v : Ver) (w : World) (h : Both B w p r N M s all) (hsim : Sim s all) (hB : B ≤ w.heap.size) (hN : N < 3000000000000) (hM : M < 2300000000000) :
    Calls Try.prog 19 #[.pointer (some ⟨p, 0, none⟩), .pointer (some ⟨r, 0, none⟩), .agg #[.int .i64 6, .int .i64 t, .string k, .int .i64 v.commit, .int .i64 v.writer, .bool v.found, .string v.value]] w fun e w' => e = .returned (.bool true) ∧ ∃ s' all', Both B w' p r N M s' all' ∧ Sim s' all' ∧ ((∀ x ∈ all, x.key.size ≤ 8) → ∀ x ∈ all', x.key.size ≤ 8) ∧ Below B w w' := by
  obtain ⟨vc, vw, vf, vv⟩ := v
  have hba := (Below.refl w.heap.size w).alloc (Nat.le_refl _) (.cells #[.int .i64 6, .int .i64 t, .string k, .int .i64 vc, .int .i64 vw, .bool vf, .string vv] 35)
  have rba := RowAt.new w 35 [.int .i64 6, .int .i64 t, .string k, .int .i64 vc, .int .i64 vw, .bool vf, .string vv]
  obtain ⟨W0, hW0⟩ : ∃ WW : World, WW = w.alloc (.cells #[.int .i64 6, .int .i64 t, .string k, .int .i64 vc, .int .i64 vw, .bool vf, .string vv] 35) := ⟨_, rfl⟩
  rw [show (Obj.cells (List.toArray [.int .i64 6, .int .i64 t, .string k, .int .i64 vc, .int .i64 vw, .bool vf, .string vv]) 35) = .cells #[.int .i64 6, .int .i64 t, .string k, .int .i64 vc, .int .i64 vw, .bool vf, .string vv] 35 from rfl, ← hW0] at rba
  rw [← hW0] at hba
  have hsz : w.heap.size < W0.heap.size := rba.lt
  have HG := Lib.hid (h.fresh hba hsz)
  have HB := Lib.hid ((Below.refl B w).trans (hba.mono hB))
  have RB := Lib.hid rba
  have HW0 := Lib.hid hW0
  have HSIM := Lib.hid hsim
  have hB0 : B ≤ W0.heap.size := by omega
  clear hba rba h hsim hW0
  go_enter Try.func19, Try.ntmps19
  go_wp2_with fail
  rw [← HW0.out]
  refine (both_pruneG w.heap.size B p r N M s all t _ 35 _ HG.out RB.out hB0 hN HSIM.out.good).mono ?_
  rintro e w1 ⟨X, rfl, hX, hg, t1, b1, r1⟩
  have S1 := Lib.hid (HSIM.out.prune t hg)
  have T1 := Lib.hid t1
  have B1 := Lib.hid (HB.out.trans b1)
  have c1 := r1.cell 1
  simp only [List.getElem?_cons_zero, List.getElem?_cons_succ] at c1
  have hl := S1.out.len
  have hl0 := HSIM.out.len
  simp only at hl
  obtain ⟨kn, hkn⟩ : ∃ m, m = (keptR all t all).length := ⟨_, rfl⟩
  obtain ⟨an, han⟩ : ∃ m, m = all.length := ⟨_, rfl⟩
  rw [← hkn] at hl
  rw [← han] at hl0
  have HKN := Lib.hid hkn
  have HAN := Lib.hid han
  have hqq : ((X : Int) == (an : Int) - (kn : Int)) = true := by rw [beq_iff_eq]; omega
  clear t1 b1 r1 hg hkn han hl hl0 hX
  go_wp2_with fail
  refine (both_rprune B p r N M _ all t _ T1.out (Nat.le_trans hB B1.out.size) hM).mono ?_
  rintro e w3 ⟨he, t3, b3⟩
  rw [← HKN.out, ← HAN.out] at he
  subst he
  have T3 := Lib.hid t3
  have B3 := Lib.hid (B1.out.trans b3)
  clear t3 b3
  go_wp2_with fail
  go_ret
  exact ⟨rfl, _, _, T3.out, S1.out, fun hs x hx => hs x (List.mem_filter.1 hx).1, B3.out⟩

end Go.Proofs.Ytkbnfnfjmofcmaa
