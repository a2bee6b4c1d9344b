/- Prune: plain sums, Clone, the walk. -/
import Derived.Test.YtkbnfnfjmofcmaaC5
import Derived.Test.YtkbnfnfjmofcmaaRg
import Derived.Lib.SliceRun
import Derived.Deep.CutRange
namespace Go.Proofs.Ytkbnfnfjmofcmaa
set_option linter.unusedVariables false
set_option linter.unusedSimpArgs false
open Go.RowKit

def prn (t : Int) (l : List Ver) : List Ver := if 1 < cut l t then l.drop (cut l t - 1) else l
def gon (t : Int) (l : List Ver) : Nat := if 1 < cut l t then cut l t - 1 else 0
theorem gon_prn (t : Int) (l : List Ver) : (prn t l).length + gon t l = l.length := by
  have := cut_le l t
  unfold prn gon
  split
  · rw [List.length_drop]; omega
  · rfl
theorem prn_ne {t : Int} {l : List Ver} (h : l ≠ []) : prn t l ≠ [] := by
  have h0 := List.length_pos_iff.2 h
  have h1 := cut_le l t
  have h2 := gon_prn t l
  intro e
  rw [e] at h2
  unfold gon at h2
  split at h2 <;> simp at h2 <;> omega
theorem prn_nil (t : Int) : prn t [] = [] := rfl
/-- The sum of the chains' lengths is c. -/
def Total (st : ByteArray → List Ver) (c : Nat) : Prop := ∃ ks : List ByteArray, ks.Nodup ∧ (∀ k, st k ≠ [] ↔ k ∈ ks) ∧ (ks.map fun k => (st k).length).sum = c
theorem sum_one (g : ByteArray → Nat) (left left' : ByteArray → Bool) (x : ByteArray) (hx : left x = true) (hl : ∀ k, left' k = if k = x then false else left k) : ∀ ks : List ByteArray, ks.Nodup →
    (x ∉ ks → (ks.map fun k => if left' k = true then 0 else g k).sum = (ks.map fun k => if left k = true then 0 else g k).sum) ∧ (x ∈ ks → (ks.map fun k => if left' k = true then 0 else g k).sum = (ks.map fun k => if left k = true then 0 else g k).sum + g x) := by
  intro ks
  induction ks with
  | nil => intro _; exact ⟨fun _ => rfl, fun h => by cases h⟩
  | cons a ks ih =>
    intro hn
    rw [List.nodup_cons] at hn
    obtain ⟨ih1, ih2⟩ := ih hn.2
    rw [List.map_cons, List.map_cons, List.sum_cons, List.sum_cons, hl a]
    by_cases e : a = x
    · subst e
      rw [if_pos rfl, ih1 hn.1, hx]
      simp
      omega
    · rw [if_neg e]
      refine ⟨fun h => ?_, fun h => ?_⟩
      · rw [ih1 (fun hh => h (List.mem_cons_of_mem _ hh))]
      · rw [ih2 (by rcases List.mem_cons.1 h with h | h; exact absurd h.symm e; exact h)]
        omega
theorem sum_all (g : ByteArray → Nat) (left : ByteArray → Bool) (hl : ∀ k, left k = false) (ks : List ByteArray) : (ks.map fun k => if left k = true then 0 else g k).sum = (ks.map g).sum := by
  congr 1
  exact List.map_congr_left fun k _ => by rw [hl]; rfl
theorem sum_prn (t : Int) (st : ByteArray → List Ver) (ks : List ByteArray) : (ks.map fun k => (prn t (st k)).length).sum + (ks.map fun k => gon t (st k)).sum = (ks.map fun k => (st k).length).sum := by
  induction ks with
  | nil => rfl
  | cons a ks ih =>
    simp only [List.map_cons, List.sum_cons]
    have := gon_prn t (st a)
    omega
theorem sum_part (g : ByteArray → Nat) (left : ByteArray → Bool) (ks : List ByteArray) : (ks.map fun k => if left k = true then 0 else g k).sum ≤ (ks.map g).sum := by
  induction ks with
  | nil => exact Nat.le_refl _
  | cons a ks ih =>
    simp only [List.map_cons, List.sum_cons]
    split <;> omega
/-- Clone of a slice that may be read. -/
theorem clone_any (a : Addr) (n cap : Nat) (ys : List Ver) (w : World) (hn : ys.length = n) (hy : ReadAt w Ver.cells (.slice (some a) n cap) ys) (hm : ys.length < 3000000000000) :
    Calls Try.prog 27 #[.slice (some a) n cap] w fun e w' => ∃ v, e = .returned v ∧ Own w' w.heap.size 27 4 Ver.cells v ys ∧ Below w.heap.size w w' := by
  have he := fun w => Lib.run_eql_slice_nil (P := Try.prog) w 57 27 (some a) n cap 0 0 Try.underlying57
  have B0 := Lib.hid ((Below.refl w.heap.size w).alloc (Nat.le_refl _) (.cells #[] 27))
  have O0 := Lib.hid (own_empty w)
  have HY := Lib.hid (ReadAt.below hy B0.out)
  clear hy
  go_enter Try.func27, Try.ntmps27
  go_wp2_with (at_builtin; refine cat_list Ver.cells 27 57 57 27 (.agg Ver.zero.cells.toArray) 4 40 Try.underlying57 Try.underlying57 (by kernel_rfl) rfl (by decide) Ver.len ver_one _ _ (by rfl) (by rfl) w.heap.size (.slice (some ⟨w.heap.size, 0, none⟩) 0 0) [] ys (by rfl) O0.out (.slice (some a) n cap) (by rfl) HY.out ?_ ?_ (by simp) ?_)
  · unfold maxLen; simp; omega
  · simp; omega
  · intro v' w1 o1 g1 l1
    have O1 := Lib.hid o1
    have B1 := Lib.hid (B0.out.grown g1 (by simp) (fun k hk => by simp [Value.ownBlock] at hk; omega))
    clear o1 g1 l1
    go_wp2
    go_ret
    exact ⟨v', rfl, O1.out, B1.out⟩

theorem Held.mono {F F' : Nat → Prop} {w : World} {f : ByteArray → Option Value} {st : ByteArray → List Ver} (h : Held F w f st) (hF : ∀ i, F i → F' i) : Held F' w f st :=
  ⟨h.no, fun k v e => ⟨(h.yes k v e).1, (h.yes k v e).2.1, fun g hg => hF g ((h.yes k v e).2.2 g hg)⟩, h.apart⟩
theorem Held.congr {F : Nat → Prop} {w : World} {f : ByteArray → Option Value} {st st' : ByteArray → List Ver} (h : Held F w f st) (e : ∀ k, st k = st' k) : Held F w f st' := by
  obtain rfl : st = st' := funext e
  exact h
theorem Held.far {F S : Nat → Prop} {w w' : World} {f : ByteArray → Option Value} {st : ByteArray → List Ver} (h : Held F w f st) (ht : Turn S w w') (hd : ∀ k v g, f k = some v → v.ownBlock = some g → ¬ S g) : Held F w' f st :=
  ⟨h.no, fun k v e => ⟨(h.yes k v e).1.turn ht fun g hg => hd k v g e hg, (h.yes k v e).2⟩, h.apart⟩
/-- What holds while the chains are pruned: those of the keys that are still to come are as they were. -/
structure PInv (F : Nat → Prop) (w : World) (p cnt n b r cl : Nat) (t : Int) (st : ByteArray → List Ver) (left : Lit → Bool) (f : ByteArray → Option Value) (wr : World) : Prop where
  head : RowAt wr p 60 [.map (some b), .int .i64 cnt]
  rg : MRg Try.prog 9 wr b r n f left cl
  held : Held (fun i => F i ∨ (w.heap.size ≤ i ∧ i < wr.heap.size)) wr f (fun k => if left (kl k) = true then st k else prn t (st k))
  turn : Turn F w wr
  rl : w.heap.size ≤ r
def PrunePost (F : Nat → Prop) (p cnt N : Nat) (t : Int) (st : ByteArray → List Ver) (w : World) (e : Ending) (w' : World) : Prop :=
  ∃ G : Nat, e = .returned (.int .i64 G) ∧ G ≤ cnt ∧ Total (fun k => prn t (st k)) (cnt - G) ∧ (∃ F', SAt F' w' p (cnt - G) N (fun k => prn t (st k)) ∧ (∀ i, F' i → F i ∨ w.heap.size ≤ i)) ∧ Turn F w w'
set_option maxRecDepth 100000 in
set_option maxHeartbeats 3200000 in
theorem prune_any (F : Nat → Prop) (p cnt N : Nat) (t : Int) (st : ByteArray → List Ver) (w : World) (h : SAt F w p cnt N st) (hN : N < 3000000000000) (hr : ∀ k, Rising (st k)) (hT : Total st cnt) :
    Calls Try.prog 16 #[.pointer (some ⟨p, 0, none⟩), .int .i64 t] w (PrunePost F p cnt N t st w) := by
  obtain ⟨ks, hks, hkm, hsum⟩ := hT
  have hpl := h.lt
  obtain ⟨b, n, f0, m1, m2, m3, m4, m5, m6, m7, m8, m9⟩ := h
  obtain ⟨w0, left0, cl0, hrun0, rg0, hl0, g0, s0⟩ := m2.range (T := 58) (E := 57) Try.underlying9 Try.underlying58
  have t0 : Turn (fun _ => False) w w0 := (Turn.refl _ _).grown g0 fun k hk => by cases hk
  have P0 := Lib.hid (show PInv F w p cnt n b w.heap.size cl0 t st left0 f0 w0 from
    ⟨m1.turn t0 id, rg0, ((m3.turn t0 fun _ _ => id).mono fun i hi => .inl hi).congr fun k => by
      split
      · rfl
      · rename_i hk
        rw [hl0] at hk
        cases e : f0 k with
        | none => rw [m3.no k e]; rfl
        | some v => rw [e] at hk; exact absurd rfl hk, t0.mono fun _ _ h => h.elim, Nat.le_refl _⟩)
  have HL0 := Lib.hid hl0
  have HKS := Lib.hid hks
  have HKM := Lib.hid hkm
  have HSUM := Lib.hid hsum
  have HR := Lib.hid hr
  have M3 := Lib.hid m3
  have M6 := Lib.hid m6
  have M9 := Lib.hid m9
  have HNM := Lib.hid (show n < maxLen by unfold maxLen; omega)
  have q0 := m1.cell 0
  simp only [List.getElem?_cons_zero] at q0
  have G0 := Lib.hid (show 0 = (ks.map fun k => if left0 (kl k) = true then 0 else gon t (st k)).sum from by
    have : ∀ k ∈ ks, (if left0 (kl k) = true then 0 else gon t (st k)) = 0 := fun k hk => by
      rw [hl0]
      cases e : f0 k with
      | none => exact absurd (m3.no k e) ((hkm k).2 hk)
      | some v => rfl
    rw [List.map_congr_left this]
    clear this
    induction ks with
    | nil => rfl
    | cons a ks ih => simp [List.sum_replicate_nat, List.map_const'])
  obtain ⟨r, hr9⟩ : ∃ r, r = w.heap.size := ⟨_, rfl⟩
  rw [← hr9] at hrun0 P0
  clear m1 m2 m3 rg0 hl0 g0 s0 t0 hks hkm hsum hr m6 m9
  have HR9 := Lib.hid hr9
  clear hr9
  go_enter Try.func16, Try.ntmps16
  go_wp2_with fail
  clear q0 hrun0
  go_loopw [5] (fun g wr => ∃ (left : Lit → Bool) (f : ByteArray → Option Value) (cl G : Nat), g = .int .i64 G ∧ G ≤ cnt ∧ Hid (G = (ks.map fun k => if left (kl k) = true then 0 else gon t (st k)).sum) ∧ Hid (PInv F w p cnt n b r cl t st left f wr)) (fun _ wr => wr.rangeLeft b r)
  case atStart => exact ⟨left0, f0, cl0, 0, rfl, Nat.zero_le _, G0.out, P0.out⟩
  case round =>
    clear P0 G0 HL0
    obtain ⟨left, f, cl, G, rfl, hG, HG, HP⟩ := hrel
    rcases HP.out.rg.next Try.underlying9 0 with ⟨hcl, hleft, hrun⟩ | ⟨x, v, w1, cl1, hx, hlx, hfx, hrun, rg1, hcl1, g1, s1, hen⟩
    · have hp1 := HP.out.head.cell 1
      have hpf := HP.out.head.frozen 1
      simp only [List.getElem?_cons_zero, List.getElem?_cons_succ] at hp1
      have HLF := Lib.hid hleft
      clear hleft hcl
      go_wp2_with fail
      go_ret
      have eG : G = (ks.map fun k => gon t (st k)).sum := by rw [HG.out]; exact sum_all _ (fun k => left (kl k)) HLF.out ks
      have ec : ((cnt : Int) - (G : Int)) = ((cnt - G : Nat) : Int) := by omega
      have hh := HP.out.held.congr (st' := fun k => prn t (st k)) fun k => by rw [HLF.out]; rfl
      have tp : Turn (fun i => i = p) wr (wr.setCell ⟨p, 1, none⟩ (.int .i64 ((cnt : Int) - (G : Int)))) := Turn.setCell (S := fun i => i = p) (p := ⟨p, 1, none⟩) (Turn.refl _ _) (.inl rfl) _
      refine ⟨G, rfl, hG, ⟨ks, HKS.out, fun k => ?_, ?_⟩, ⟨fun i => F i ∨ (w.heap.size ≤ i ∧ i < (wr.setCell ⟨p, 1, none⟩ (.int .i64 ((cnt : Int) - (G : Int)))).heap.size), ⟨b, n, f, ?_, HP.out.rg.mat.turn tp (fun e => HP.out.rg.mat.ne HP.out.head e.symm), ?_, .inl m4, .inl m5, ?_, m7, by omega, fun k => ?_⟩, fun i hi => hi.imp id fun h => h.1⟩, ?_⟩
      · rw [← HKM.out k]
        exact ⟨fun h e => h (by show prn t (st k) = []; rw [e]; rfl), prn_ne⟩
      · show (ks.map fun k => (prn t (st k)).length).sum = cnt - G
        have := sum_prn t st ks
        have := HSUM.out
        omega
      · exact (HP.out.head.set 1 (.int .i64 ((cnt : Int) - (G : Int)))).congr (by rw [ec]; rfl)
      · refine (hh.far tp fun k v g e hg hh2 => own_far (HP.out.held.yes k v e).1 HP.out.head (by decide) (by rw [← hh2]; exact hg)).mono fun i hi => hi.imp id fun h => ⟨h.1, Nat.lt_of_lt_of_le h.2 tp.size⟩
      · rintro i (hi | hi)
        · have := M6.out i hi
          have := HP.out.turn.size
          have := tp.size
          omega
        · exact hi.2
      · show (prn t (st k)).length ≤ N
        have := gon_prn t (st k)
        have := M9.out k
        omega
      · exact HP.out.turn.setCell (.inl m4) _
    · obtain ⟨o1, n1, F1⟩ := HP.out.held.yes x v hfx
      rw [if_pos hlx] at o1 n1
      have hpr : p ≠ r := fun e => by have := HP.out.rl; omega
      have t1 : Turn (fun i => i = r) wr w1 := map_turn g1
      have M1 := Lib.hid (HP.out.head.turn t1 hpr)
      have T1 := Lib.hid (HP.out.turn.then t1 fun i hi e => by have := HP.out.rl; omega)
      have row : ∀ {v2 : Value} {l : List Ver} {g : Nat}, VOwn wr v2 l → v2.ownBlock = some g → g ≠ r := fun {v2 l g} ho hg => by
        rcases ho.cases with ⟨rfl, -⟩ | ⟨g', cap, rest, rfl, -, -, -, hr'⟩
        · simp [Value.ownBlock] at hg
        · have e : g' = g := by simpa [Value.ownBlock] using hg
          subst e
          exact HP.out.rg.far hr'
      have HE1 := Lib.hid ((HP.out.held.far t1 fun k v2 g e hg e2 => row (HP.out.held.yes k v2 e).1 hg e2).mono (F' := fun i => F i ∨ (w.heap.size ≤ i ∧ i < w1.heap.size)) fun i hi => hi.imp id fun h => ⟨h.1, by rw [s1]; exact h.2⟩)
      have OX1 := Lib.hid (Own.turn o1 t1 fun g hg => row o1 hg)
      have RG1 := Lib.hid rg1
      have RL := Lib.hid HP.out.rl
      have FX := Lib.hid hfx
      have HLX := Lib.hid hlx
      obtain ⟨A, cap, rfl⟩ : ∃ A cap, v = .slice A (st x).length cap := by
        rcases o1.cases with ⟨rfl, e⟩ | ⟨g, cap, rest, rfl, -⟩
        · exact absurd e n1
        · exact ⟨_, _, rfl⟩
      obtain ⟨ln, hln⟩ : ∃ n, n = (st x).length := ⟨_, rfl⟩
      rw [← hln] at hrun hen OX1 FX
      have HLN := Lib.hid hln
      have hl9 : ln ≤ N := by rw [hln]; exact M9.out x
      have RDX := Lib.hid (HR.out x)
      have HX := Lib.hid hx
      have HCL := Lib.hid hcl1
      have HRL := Lib.hid (HP.out.rg.left_eq)
      clear o1 n1 F1 t1 row rg1 hln hfx hlx g1 s1 HP hcl1 hx
      go_wp2_with fail
      refine (upTo_any _ (st x) t _ (VOwn.vers OX1.out) (by rw [← HLN.out]; omega) RDX.out).mono ?_
      rintro e w2 ⟨rfl, b2⟩
      have M2 := Lib.hid (M1.out.below b2)
      have T2 := Lib.hid (T1.out.then (Turn.of_below b2 fun _ => False) fun _ _ h => h.elim)
      have HE2 := Lib.hid ((HE1.out.far (Turn.of_below b2 fun _ => False) fun _ _ _ _ _ => id).mono (F' := fun i => F i ∨ (w.heap.size ≤ i ∧ i < w2.heap.size)) fun i hi => hi.imp id fun h => ⟨h.1, Nat.lt_of_lt_of_le h.2 b2.size⟩)
      have OX2 := Lib.hid (Own.below OX1.out b2)
      have RG2 := Lib.hid (RG1.out.kept (row := none) ⟨b2.os, b2.tape, b2.output, b2.size, fun i hi _ => b2.block i hi⟩ (by simp) (by simp))
      have hcl := cut_le (st x) t
      rw [← HLN.out] at hcl
      obtain ⟨m, hm⟩ : ∃ m, m = cut (st x) t := ⟨_, rfl⟩
      rw [← hm] at hcl ⊢
      have HM := Lib.hid hm
      clear hm b2 hrun hen M1 T1 HE1 OX1 RG1
      have q0 := M2.out.cell 0
      simp only [List.getElem?_cons_zero] at q0
      by_cases h1 : 1 < m
      · obtain ⟨j, hj⟩ : ∃ j, j + 1 = m := ⟨m - 1, by omega⟩
        have hw1 : IntKind.i64.wrap ((m : Int) - 1) = (j : Int) := by rw [wrap_in (by omega) (by omega)]; omega
        have HJ := Lib.hid hj
        have hd1 : decide ((1 : Int) < (m : Int)) = true := decide_eq_true (by omega)
        have hd2 : decide (1 < m) = true := decide_eq_true (by omega)
        obtain ⟨g, rest, rfl, hlc, hcm, hrow⟩ : ∃ g rest, A = some ⟨g, 0, none⟩ ∧ ln ≤ cap ∧ cap ≤ maxLen ∧ RowAt w2 g 27 ((st x).flatMap Ver.cells ++ rest) := by
          rcases (Own.cases OX2.out) with ⟨e, e2⟩ | ⟨g, cap', rest, e, -, h1, h2, h3⟩
          · have := HLN.out
            rw [e2] at this
            simp at this
            omega
          · injection e with e1 e2 e3
            subst e1 e3
            exact ⟨g, rest, rfl, by rw [HLN.out]; exact h1, h2, h3⟩
        have hb1 : (0 : Int) ≤ (j : Int) := by omega
        have hb2 : (j : Int) ≤ (ln : Int) := by omega
        have hb3 : (ln : Int) ≤ (cap : Int) := by omega
        have hb4 : (j : Int) ≤ (cap : Int) := by omega
        have hb5 : j < cap := by omega
        have hb6 : ¬ cap = j := by omega
        have CLR := Lib.hid (show ReadAt w2.drew Ver.cells (.slice (some ⟨g, j * 4, none⟩) (ln - j) (cap - j)) ((st x).drop j) from by
          refine .inr ⟨_, _, by rw [List.length_drop, ← HLN.out], fun i u hi => ?_⟩
          rw [add_off]
          show w2.cell? _ = _
          rw [hrow.cell]
          have hfl := flat_length Ver.len ((st x).take j)
          rw [List.length_take, ← HLN.out, Nat.min_eq_left (by omega)] at hfl
          have hs : (st x).flatMap Ver.cells = ((st x).take j).flatMap Ver.cells ++ ((st x).drop j).flatMap Ver.cells := by rw [← List.flatMap_append, List.take_append_drop]
          rw [hs, List.append_assoc, List.getElem?_append_right (by omega), hfl, show j * 4 + i - j * 4 = i by omega, List.getElem?_append_left (List.getElem?_eq_some_iff.1 hi).1]
          exact hi)
        have HLD := Lib.hid (show ((st x).drop j).length = ln - j by rw [List.length_drop, ← HLN.out])
        clear hj hrow
        unfold maxLen at hcm
        go_upto_region 8 with fail
        go_region_held3 (fun w' => w'.cell? ⟨p, 0, none⟩ = some (.map (some b)))
          (first | exact q0 | exact q3 | exact q4)
          (first | (go_at_call 27; refine (clone_any ⟨g, j * 4, none⟩ (ln - j) (cap - j) ((st x).drop j) _ HLD.out CLR.out (by rw [HLD.out]; omega)).mono ?_; rintro e w3 ⟨v3, rfl, o3, b3⟩; have O3 := Lib.hid o3; have B3 := Lib.hid (show Below w2.heap.size w2 w3 from ⟨b3.os, b3.tape, b3.output, b3.size, b3.block⟩); have q3 := (B3.out.cell (p := ⟨p, 0, none⟩) M2.out.lt).trans q0; have M3 := Lib.hid (M2.out.below B3.out); have RG3 := Lib.hid (RG2.out.kept (row := none) ⟨B3.out.os, B3.out.tape, B3.out.output, B3.out.size, fun i hi _ => B3.out.block i hi⟩ (by simp) (by simp)); clear o3 b3; obtain ⟨w4, hmu, rg4, g4, s4⟩ := RG3.out.put (T := 58) (E := 57) Try.underlying9 Try.underlying58 HX.out (by rw [FX.out]; rfl) HNM.out v3; have RG4 := Lib.hid rg4; have T4 := Lib.hid (map_turn g4); have S4 := Lib.hid s4; have M4 := Lib.hid (M3.out.turn T4.out (RG3.out.mat.ne M3.out)); have q4 := cell4 M4.out 0; simp only [List.getElem?_cons_zero] at q4; clear rg4 g4 s4))
        clear q0 q3 q4 hmu hw1 hd1 hd2 hb6
        go_wp2_with fail
        go_roundw
        case rel =>
          have hj := HJ.out
          have hmx := HM.out
          have ep : prn t (st x) = (st x).drop j := by unfold prn; rw [← hmx, if_pos h1, show m - 1 = j by omega]
          have eg : gon t (st x) = j := by unfold gon; rw [← hmx, if_pos h1]; omega
          have hin : x ∈ ks := (HKM.out x).1 fun e => by have := HLN.out; rw [e] at this; simp at this; omega
          have hG2 : (ks.map fun k => if (left (kl k) && !(kl k).sameKey (kl x)) = true then 0 else gon t (st k)).sum = (ks.map fun k => if left (kl k) = true then 0 else gon t (st k)).sum + j := by
            have := (sum_one (fun k => gon t (st k)) (fun k => left (kl k)) (fun k => left (kl k) && !(kl k).sameKey (kl x)) x HLX.out (fun k => left_next left x k) ks HKS.out).2 hin
            rw [eg] at this
            exact this
          have hp1 : (ks.map fun k => if (left (kl k) && !(kl k).sameKey (kl x)) = true then 0 else gon t (st k)).sum ≤ (ks.map fun k => gon t (st k)).sum := sum_part (fun k => gon t (st k)) (fun k => left (kl k) && !(kl k).sameKey (kl x)) ks
          have hp2 := sum_prn t st ks
          have hp3 := HSUM.out
          have hp4 := HG.out
          have t24 : Turn (fun i => i = b ∨ ((f x).getD (.slice none 0 0)).ownBlock = some i) w2 w4 := (Turn.of_below B3.out _).trans (T4.out.mono fun _ _ h => .inl h)
          refine ⟨fun z => left z && !z.sameKey (kl x), _, cl1, G + j, by go_num, ?_, Lib.hid ?_, Lib.hid ⟨M4.out, RG4.out, ?_, ?_, RL.out⟩⟩
          · omega
          · rw [hG2, ← hp4]
          · have hput := HE2.out.put (X := fun i => i = b) (k := x) (v' := v3) (l' := prn t (st x)) ?_ t24 ?_ (prn_ne fun e => by have := HLN.out; rw [e] at this; simp at this; omega) ?_ ?_
            · refine (hput.mono ?_).congr ?_
              · rintro i ((h | h) | h)
                · exact .inl h
                · exact .inr ⟨h.1, Nat.lt_of_lt_of_le h.2 t24.size⟩
                · exact .inr ⟨Nat.le_trans T2.out.size h.1, h.2⟩
              · intro k
                unfold upd
                by_cases hk : k = x
                · subst hk
                  rw [if_pos rfl, left_next, if_pos rfl]
                  rfl
                · rw [if_neg hk, left_next, if_neg hk]
            · rintro k v2 g2 e2 hg2 rfl
              exact VOwn.ne RG2.out.mat (HE2.out.yes k v2 e2).1 _ hg2 rfl
            · rw [ep]
              exact (Own.mono O3.out (Nat.zero_le _)).turn T4.out fun g2 hg2 => VOwn.ne RG3.out.mat (Own.mono O3.out (Nat.zero_le _)) g2 hg2
            · intro g2 hg2
              exact .inr (O3.out.base g2 hg2).1
            · rintro i (h | h)
              · exact Nat.lt_of_lt_of_le (M6.out i h) T2.out.size
              · exact h.2
          · exact T2.out.then ((Turn.of_below B3.out _).trans T4.out) fun i _ e => by subst e; exact m5
        case measure =>
          rw [RG4.out.left_eq, HRL.out]
          exact HCL.out
      · have hd1 : decide ((1 : Int) < (m : Int)) = false := decide_eq_false (by omega)
        have hd2 : decide (1 < m) = false := decide_eq_false (by omega)
        clear q0
        go_wp2_with fail
        go_roundw
        case rel =>
          have hmx := HM.out
          have ep : prn t (st x) = st x := by unfold prn; rw [← hmx, if_neg h1]
          have eg : gon t (st x) = 0 := by unfold gon; rw [← hmx, if_neg h1]
          have hso := sum_one (fun k => gon t (st k)) (fun k => left (kl k)) (fun k => left (kl k) && !(kl k).sameKey (kl x)) x HLX.out (fun k => left_next left x k) ks HKS.out
          have hG2 : (ks.map fun k => if (left (kl k) && !(kl k).sameKey (kl x)) = true then 0 else gon t (st k)).sum = (ks.map fun k => if left (kl k) = true then 0 else gon t (st k)).sum := by
            by_cases hin : x ∈ ks
            · rw [hso.2 hin, eg]; rfl
            · exact hso.1 hin
          refine ⟨fun z => left z && !z.sameKey (kl x), f, cl1, G, rfl, hG, Lib.hid (by rw [hG2]; exact HG.out), Lib.hid ⟨M2.out, RG2.out, HE2.out.congr fun k => ?_, T2.out, RL.out⟩⟩
          rw [left_next]
          by_cases hk : k = x
          · subst hk
            rw [if_pos HLX.out, if_pos rfl]
            exact ep.symm
          · rw [if_neg hk]
        case measure =>
          rw [RG2.out.left_eq, HRL.out]
          exact HCL.out

end Go.Proofs.Ytkbnfnfjmofcmaa
