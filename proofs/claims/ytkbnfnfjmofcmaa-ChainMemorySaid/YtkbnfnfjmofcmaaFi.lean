/- fill and the anchor. -/
import Derived.Test.YtkbnfnfjmofcmaaOp
namespace Go.Proofs.Ytkbnfnfjmofcmaa
set_option linter.unusedVariables false
set_option linter.unusedSimpArgs false
open Go.RowKit

abbrev Store := Nat × (ByteArray → List Ver)
/-- One install. -/
def play1 (s : Store) (k : ByteArray) (v : Ver) : Store := if refuse k v (s.2 k) = 0 then (s.1 + 1, upd s.2 k (s.2 k ++ [v])) else s
def fillF (xs : List Op) : Store := xs.foldl (fun s o => if o.kind = 1 then play1 s o.key o.v else s) (0, fun _ => [])
theorem fillF_snoc (xs : List Op) (o : Op) : fillF (xs ++ [o]) = if o.kind = 1 then play1 (fillF xs) o.key o.v else fillF xs := by
  unfold fillF
  rw [List.foldl_append]
  rfl
def vlt (a b : Ver) : Prop := a.commit < b.commit ∨ (a.commit = b.commit ∧ a.writer < b.writer)
/-- Strictly rising. -/
def Inc (l : List Ver) : Prop := l.Pairwise vlt
theorem Inc.rising {l : List Ver} (h : Inc l) : Rising l := h.imp fun {a b} hab => by rcases hab with h | h <;> omega
theorem cmp_neg {a b c d : Int} (h : ¬ 0 ≤ orI [cmpI a b, cmpI c d]) : a < b ∨ (a = b ∧ c < d) := by
  unfold orI orI orI cmpI at h
  split at h <;> split at h <;> (try split at h) <;> (try split at h) <;> (try split at h) <;> (try split at h) <;> omega
theorem vlt_trans {a b c : Ver} (h : vlt a b) (h' : vlt b c) : vlt a c := by unfold vlt at *; omega
theorem Inc.snoc {l : List Ver} {v : Ver} (h : Inc l) (hs : staleV l v = false) : Inc (l ++ [v]) := by
  unfold Inc
  rw [List.pairwise_append]
  refine ⟨h, List.pairwise_singleton _ _, fun a ha b hb => ?_⟩
  rw [List.mem_singleton] at hb
  subst hb
  obtain ⟨i, hi, rfl⟩ := List.mem_iff_getElem.1 ha
  have hx : l[l.length - 1]? = some (l[l.length - 1]'(by omega)) := List.getElem?_eq_getElem _
  rw [staleV_at (n := l.length - 1) (by omega) hx] at hs
  have hl := cmp_neg (of_decide_eq_false hs)
  by_cases e : i = l.length - 1
  · subst e; exact hl
  · exact vlt_trans (List.pairwise_iff_getElem.1 h i (l.length - 1) hi (by omega) (by omega)) hl
theorem refuse_0 {k : ByteArray} {v : Ver} {l : List Ver} (h : refuse k v l = 0) : 1 ≤ k.size ∧ k.size ≤ 8 ∧ rightV v = true ∧ staleV l v = false := by
  unfold refuse at h
  split at h
  · omega
  · rename_i h1
    split at h
    · omega
    · rename_i h2
      split at h
      · omega
      · rename_i h3
        refine ⟨by omega, by omega, ?_, by simpa using h3⟩
        cases hr : rightV v with
        | true => rfl
        | false => exact absurd hr h2
theorem play1_inc {s : Store} (h : ∀ k, Inc (s.2 k)) (k : ByteArray) (v : Ver) : ∀ k', Inc ((play1 s k v).2 k') := by
  intro k'
  unfold play1
  split
  · rename_i h0
    show Inc (upd s.2 k (s.2 k ++ [v]) k')
    unfold upd
    split
    · exact (h k).snoc (refuse_0 h0).2.2.2
    · exact h k'
  · exact h k'
theorem fillF_inc (xs : List Op) : ∀ k, Inc ((fillF xs).2 k) := by
  have : ∀ (xs : List Op) (s : Store), (∀ k, Inc (s.2 k)) → ∀ k, Inc ((xs.foldl (fun s o => if o.kind = 1 then play1 s o.key o.v else s) s).2 k) := by
    intro xs
    induction xs with
    | nil => intro s h; exact h
    | cons o xs ih =>
      intro s h
      rw [List.foldl_cons]
      refine ih _ ?_
      split
      · exact play1_inc h _ _
      · exact h
  exact this xs _ fun _ => List.Pairwise.nil
/-- The same of a store and its state. -/
theorem install_play (F : Nat → Prop) (p N : Nat) (s : Store) (k : ByteArray) (v : Ver) (w : World) (h : SAt F w p s.1 N s.2) (hk : k.size ≤ maxLen) (hN : N < 3000000000000) :
    Calls Try.prog 15 #[.pointer (some ⟨p, 0, none⟩), .string k, .agg #[.int .i64 v.commit, .int .i64 v.writer, .bool v.found, .string v.value]] w fun e w' => e = .returned (.int .i64 (refuse k v (s.2 k))) ∧ ∃ F', SAt F' w' p (play1 s k v).1 (N + 1) (play1 s k v).2 ∧ (∀ i, F' i → F i ∨ w.heap.size ≤ i) ∧ Turn F w w' := by
  refine (install_any F p s.1 N s.2 k v w h hk hN).mono fun e w' hp => ?_
  unfold InstAll at hp
  obtain ⟨he, F', hs, hr⟩ := hp
  refine ⟨he, F', ?_, hr⟩
  unfold play1
  split
  · rename_i h0
    rw [if_pos h0, if_pos h0] at hs
    exact hs
  · rename_i h0
    rw [if_neg h0, if_neg h0] at hs
    exact hs
def SAt' (B : Nat) (w : World) (p N : Nat) (s : Store) : Prop := ∃ F, SAt F w p s.1 N s.2 ∧ ∀ i, F i → B ≤ i
theorem SAt'.below {B : Nat} {w w' : World} {p N : Nat} {s : Store} (h : SAt' B w p N s) (hb : Below w.heap.size w w') : SAt' B w' p N s := by
  obtain ⟨F, hs, hF⟩ := h
  exact ⟨F, hs.below hb, hF⟩
theorem SAt'.mono {B : Nat} {w : World} {p N N' : Nat} {s : Store} (h : SAt' B w p N s) (hN : N ≤ N') : SAt' B w p N' s := by
  obtain ⟨F, hs, hF⟩ := h
  exact ⟨F, hs.mono hN, hF⟩
/-- One install, of a store that lies from block B on. -/
theorem install_from (B p N : Nat) (s : Store) (k : ByteArray) (v : Ver) (w : World) (h : SAt' B w p N s) (hB : B ≤ w.heap.size) (hk : k.size ≤ maxLen) (hN : N < 3000000000000) :
    Calls Try.prog 15 #[.pointer (some ⟨p, 0, none⟩), .string k, .agg #[.int .i64 v.commit, .int .i64 v.writer, .bool v.found, .string v.value]] w fun e w' => e = .returned (.int .i64 (refuse k v (s.2 k))) ∧ SAt' B w' p (N + 1) (play1 s k v) ∧ Below B w w' := by
  obtain ⟨F, hs, hF⟩ := h
  refine (install_play F p N s k v w hs hk hN).mono fun e w' ⟨he, F', hs2, hF2, t2⟩ => ⟨he, ⟨F', hs2, fun i hi => ?_⟩, t2.below hB fun i hi hFi => ?_⟩
  · rcases hF2 i hi with h | h
    · exact hF i h
    · omega
  · have := hF i hFi
    omega
set_option maxRecDepth 100000 in
set_option maxHeartbeats 1000000 in
theorem fill_any (A : Option Addr) (n cap : Nat) (xs : List Op) (w : World) (hn : xs.length = n) (hm : n < 2900000000000) (hx : ∀ o ∈ xs, o.Fits) (h : SliceRd w A 7 Op.cells xs) :
    Calls Try.prog 10 #[.slice A n cap] w fun e w' => ∃ p, e = .returned (.pointer (some ⟨p, 0, none⟩)) ∧ SAt' w.heap.size w' p n (fillF xs) ∧ Below w.heap.size w w' := by
  have HX := Lib.hid hx
  have HN := Lib.hid hn
  have HR := Lib.hid h
  clear hx hn h
  go_enter Try.func10, Try.ntmps10
  go_wp2_with fail
  refine (new_any w).mono ?_
  rintro e w1 ⟨p, rfl, h1, b1⟩
  have S1 := Lib.hid (show SAt' w.heap.size w1 p 0 (fillF (xs.take 0)) from ⟨_, h1, fun i hi => hi.1⟩)
  have B1 := Lib.hid b1
  clear h1 b1
  go_wp2_with fail
  go_loopw [11] (fun i wr => ∃ k : Nat, k ≤ n ∧ i = .int .i64 k ∧ Hid (SAt' w.heap.size wr p k (fillF (xs.take k))) ∧ Hid (Below w.heap.size w wr)) (fun i _ => n - (intOf i).toNat)
  case atStart => exact ⟨0, by omega, rfl, S1.out, B1.out⟩
  case round =>
    clear S1 B1
    obtain ⟨k, hk, rfl, HS, HB⟩ := hrel
    by_cases hlt : k < n
    · obtain ⟨x, hx⟩ : ∃ x, xs[k]? = some x := ⟨_, List.getElem?_eq_getElem (by rw [HN.out]; exact hlt)⟩
      obtain ⟨b, off, rfl, hb, hc⟩ := (HR.out.below HB.out).at hx
      have FX := Lib.hid (HX.out x (List.mem_of_getElem? hx))
      have HT := Lib.hid (show fillF (xs.take (k + 1)) = if x.kind = 1 then play1 (fillF (xs.take k)) x.key x.v else fillF (xs.take k) by
        rw [List.take_add_one, hx, Option.toList_some, fillF_snoc])
      obtain ⟨kd, tm, ky, ⟨vc, vw, vf, vv⟩⟩ := x
      have c0 := hc 0 (by omega)
      have c1 := hc 1 (by omega)
      have c2 := hc 2 (by omega)
      have c3 := hc 3 (by omega)
      have c4 := hc 4 (by omega)
      have c5 := hc 5 (by omega)
      have c6 := hc 6 (by omega)
      simp only [Op.cells, List.getElem?_cons_zero, List.getElem?_cons_succ, Nat.add_zero] at c0 c1 c2 c3 c4 c5 c6
      clear hc hx
      have hba := (Below.refl wr.heap.size wr).alloc (Nat.le_refl _) (.cells #[.int .i64 kd, .int .i64 tm, .string ky, .int .i64 vc, .int .i64 vw, .bool vf, .string vv] 35)
      have SA := Lib.hid (HS.out.below hba)
      have BA := Lib.hid (HB.out.trans (hba.mono HB.out.size))
      clear hba
      by_cases h1 : kd = 1
      · have HT1 := Lib.hid (HT.out.trans (if_pos h1))
        subst h1
        go_wp2_with fail
        refine (install_from w.heap.size p k _ ky ⟨vc, vw, vf, vv⟩ _ SA.out BA.out.size FX.out.2.2.1.le (by omega)).mono ?_
        rintro e w2 ⟨rfl, s2, b2⟩
        rw [← HT1.out] at s2
        have S2 := Lib.hid s2
        have B2 := Lib.hid (BA.out.trans b2)
        clear s2 b2 c0 c1 c2 c3 c4 c5 c6
        go_wp2
        go_roundw
        case rel => exact ⟨k + 1, by omega, by go_num, S2.out, B2.out⟩
        case measure => simp [intOf]; omega
      · have HT1 := Lib.hid (HT.out.trans (if_neg h1))
        go_wp2_with fail
        go_roundw
        case rel => exact ⟨k + 1, by omega, by go_num, by rw [HT1.out]; exact SA.out.mono (by omega), BA.out⟩
        case measure => simp [intOf]; omega
    · have e : k = n := by omega
      subst e
      have hall : xs.take k = xs := List.take_of_length_le (by rw [HN.out]; exact Nat.le_refl _)
      rw [hall] at HS
      go_wp2
      go_ret
      exact ⟨p, rfl, HS.out, HB.out⟩
set_option maxHeartbeats 1000000 in
theorem anchor_any (w : World) : Calls Try.prog 9 #[] w fun e w' => e = .returned (.bool true) ∧ Below w.heap.size w w' := by
  go_enter Try.func9, Try.ntmps9
  go_wp2_with fail
  refine (new_any w).mono ?_
  rintro e w1 ⟨p, rfl, h1, b1⟩
  have S1 := Lib.hid (show SAt' w.heap.size w1 p 0 (0, fun _ => []) from ⟨_, h1, fun i hi => hi.1⟩)
  have B1 := Lib.hid b1
  clear h1 b1
  go_wp2_with fail
  refine (install_from w.heap.size p 0 _ ⟨#[97]⟩ ⟨5, 1, true, ⟨#[120]⟩⟩ _ S1.out B1.out.size (by decide) (by decide)).mono ?_
  rintro e w2 ⟨rfl, s2, b2⟩
  have er : refuse ⟨#[97]⟩ ⟨5, 1, true, ⟨#[120]⟩⟩ [] = 0 := by decide +kernel
  have ep : play1 (0, fun _ => []) ⟨#[97]⟩ ⟨5, 1, true, ⟨#[120]⟩⟩ = (1, upd (fun _ => []) ⟨#[97]⟩ [⟨5, 1, true, ⟨#[120]⟩⟩]) := by unfold play1; rw [if_pos er]; rfl
  rw [ep] at s2
  simp only [er]
  obtain ⟨F2, h2, hF2⟩ := s2
  have S2 := Lib.hid h2
  have B2 := Lib.hid (B1.out.trans b2)
  have hu : upd (fun _ => []) ⟨#[97]⟩ [⟨5, 1, true, ⟨#[120]⟩⟩] ⟨#[97]⟩ = [(⟨5, 1, true, ⟨#[120]⟩⟩ : Ver)] := if_pos rfl
  clear h2 b2 er ep hF2
  go_wp2_with fail
  refine (at_any F2 p 1 1 _ ⟨#[97]⟩ 5 _ S2.out (by decide) (by decide) (by rw [hu]; exact List.pairwise_singleton _ _)).mono ?_
  rintro e w3 ⟨rfl, b3⟩
  rw [hu]
  have es : seen (atV [⟨5, 1, true, ⟨#[120]⟩⟩] 5) = .tuple #[.agg #[.int .i64 5, .int .i64 1, .bool true, .string ⟨#[120]⟩], .bool true] := rfl
  rw [es]
  have S3 := Lib.hid (S2.out.below b3)
  have B3 := Lib.hid (B2.out.trans (b3.mono B2.out.size))
  clear b3 es hu
  go_wp2_with fail
  refine (count_any F2 p 1 1 _ _ (S3.out.below ((Below.refl _ _).alloc (Nat.le_refl _) _))).mono ?_
  rintro e w4 ⟨rfl, rfl⟩
  go_wp2
  go_ret
  exact ⟨rfl, B3.out.alloc B3.out.size _⟩

end Go.Proofs.Ytkbnfnfjmofcmaa
