/- The laws' anchor, and the law of ties: contracts. -/
import Derived.Test.YtgcfpepaapdjoaaX
namespace Go.Proofs.Ytgcfpepaapdjoaa
set_option linter.unusedVariables false
set_option linter.unusedSimpArgs false
open Go.RowKit

/-- A fed source that is ahead of all others wins. -/
theorem winA_of (o : Int) (ho : o = 1 ∨ o = 2) (xs : List Src) (hf : AllFull xs) (v : Nat) (hv : v < xs.length) (hs : (at' xs v).st = 1) (hm : ∀ j, j < xs.length → j ≠ v → bt o xs v j = true) :
    winA o xs = ((((v : Nat) : Int), (at' xs v).row, (0 : Int)), xs.set v Src.zero) := by
  have hW : W o xs 1 = v := by
    have wl : W o xs 1 < xs.length := W_lt (by omega) (by omega)
    rcases W_one ho hf (by omega) v hv with h | h
    · exact h.symm
    · by_cases e : W o xs 1 = v
      · exact e
      · have h1 := hm _ wl e
        rw [bt_not ho hf hv wl (Ne.symm e), h] at h1
        simp at h1
  have hw : ¬ anyWait xs = true := by
    intro h
    obtain ⟨i, hi, h0⟩ := anyWait_true h
    have := hf i hi
    unfold Full at this
    omega
  unfold winA
  rw [if_neg hw, hW, if_neg (by omega)]

/-- The sources as a function of their places. -/
def Gs (f : Nat → Src) (k : Nat) : List Src := (List.range k).map f
theorem Gs_length (f : Nat → Src) (k : Nat) : (Gs f k).length = k := by simp [Gs]
theorem Gs_at (f : Nat → Src) (k j : Nat) (h : j < k) : at' (Gs f k) j = f j := by
  unfold at' Gs
  rw [List.getD_eq_getElem?_getD, List.getElem?_map, List.getElem?_range h]
  rfl
theorem Gs_ext {xs : List Src} {f : Nat → Src} {k : Nat} (hl : xs.length = k) (h : ∀ j, j < k → at' xs j = f j) : xs = Gs f k := by
  apply List.ext_getElem?
  intro j
  by_cases hj : j < k
  · rw [at'_some (by omega), h j hj]
    unfold Gs
    rw [List.getElem?_map, List.getElem?_range hj]
    rfl
  · rw [List.getElem?_eq_none (by omega), List.getElem?_eq_none (by rw [Gs_length]; omega)]
theorem Gs_set (f : Nat → Src) (k i : Nat) (s : Src) (hi : i < k) : (Gs f k).set i s = Gs (fun j => if j = i then s else f j) k := by
  apply Gs_ext (by simp [Gs_length])
  intro j hj
  rw [at'_set _ _ _ _ (by rw [Gs_length]; exact hi)]
  split
  · rfl
  · exact Gs_at f k j hj
theorem Gs_congr {f h : Nat → Src} {k : Nat} (e : ∀ j, j < k → f j = h j) : Gs f k = Gs h k := by
  apply Gs_ext (Gs_length f k)
  intro j hj
  rw [Gs_at f k j hj, e j hj]
theorem Gs_full {f : Nat → Src} {k : Nat} (h : ∀ j, j < k → Full (f j)) : AllFull (Gs f k) := by
  intro i hi
  rw [Gs_length] at hi
  rw [Gs_at f k i hi]
  exact h i hi
theorem feed_at {xs : List Src} {i : Nat} {r : Row} (hi : i < xs.length) (h0 : (at' xs i).st = 0) (hr : r.ok = true) : feedA xs i r = 0 ∧ feedS xs i r = xs.set i ⟨1, r⟩ := by
  have h1 : waitA xs i = 0 := by
    unfold waitA
    rw [if_neg (by omega), show ((i : Int).toNat) = i from by omega, if_pos h0]
  have h2 : feedA xs i r = 0 := by
    unfold feedA
    rw [if_neg (by simpa using h1), if_pos hr]
  refine ⟨h2, ?_⟩
  unfold feedS
  rw [if_pos h2]
  rfl
theorem Three.ge {g bs bl B : Nat} (h1 : B ≤ g) (h2 : B ≤ bs) (h3 : B ≤ bl) : ∀ i, i < B → ¬ Three g bs bl i := by
  intro i hi h
  unfold Three at h
  omega
theorem Turn.belowT {g bs bl : Nat} {w0 w w' : World} (ht : Turn (Three g bs bl) w w') (hb : Below w0.heap.size w0 w) (h1 : w0.heap.size ≤ g) (h2 : w0.heap.size ≤ bs) (h3 : w0.heap.size ≤ bl) : Below w0.heap.size w0 w' :=
  hb.trans (ht.below hb.size (Three.ge h1 h2 h3))

def row5 : Row := ⟨1, 5, 0, 0, 0, 0, ByteArray.empty⟩
def row3 : Row := ⟨1, 3, 0, 0, 0, 0, ByteArray.empty⟩
theorem row5_ok : row5.ok = true := by decide
theorem row3_ok : row3.ok = true := by decide
theorem anchor_any (w : World) : Calls Try.prog 9 #[] w fun e w' => e = .returned (.bool true) ∧ Below w.heap.size w w' := by
  have f0 := feed_at (xs := List.replicate 2 Src.zero) (i := 0) (r := row5) (by simp) rfl row5_ok
  have f1 := feed_at (xs := [⟨1, row5⟩, Src.zero]) (i := 1) (r := row3) (by simp) rfl row3_ok
  have fw : winA 1 [⟨1, row5⟩, ⟨1, row3⟩] = (((((1 : Nat) : Nat) : Int), row3, (0 : Int)), [⟨1, row5⟩, Src.zero]) :=
    winA_of 1 (.inl rfl) [⟨1, row5⟩, ⟨1, row3⟩] (fun i hi => by
      match i, hi with
      | 0, _ => exact .inl rfl
      | 1, _ => exact .inl rfl) 1 (by simp) rfl (fun j hj hne => by
      match j, hj, hne with
      | 0, _, _ => decide
      | 1, _, hne => exact absurd rfl hne
      | j + 2, hj, _ => simp at hj; omega)
  have F0 := Lib.hid f0
  have F1 := Lib.hid f1
  have FW := Lib.hid fw
  clear f0 f1 fw
  have hu29 := Try.underlying29
  go_enter Try.func9, Try.ntmps9
  go_wp2_with fail
  refine (tr_new 1 2 _ (.inl rfl) (by omega) (by omega)).mono ?_
  rintro e w1 ⟨g, bs, bl, rfl, h1, b1, n1, n2, n3⟩
  have H1 := Lib.hid h1
  have B1 := Lib.hid b1
  clear h1 b1
  go_wp2_with fail
  refine (tr_feed g bs bl 1 _ ((0 : Nat) : Int) row5 _ H1.out).mono ?_
  rw [show List.replicate 2 Src.zero = [Src.zero, Src.zero] from rfl] at *
  rintro e w2 ⟨rfl, h2, t2⟩
  rw [F0.out.2] at h2
  rw [F0.out.1]
  have B2 := Lib.hid (t2.belowT B1.out n1 n2 n3)
  have H2 := Lib.hid (show Tr w2 g bs bl 1 [⟨1, row5⟩, Src.zero] from h2)
  clear t2 h2 H1 B1
  go_wp2_with fail
  refine (tr_feed g bs bl 1 _ ((1 : Nat) : Int) row3 _ H2.out).mono ?_
  rintro e w3 ⟨rfl, h3, t3⟩
  rw [F1.out.2] at h3
  rw [F1.out.1]
  have B3 := Lib.hid (t3.belowT B2.out n1 n2 n3)
  have H3 := Lib.hid (show Tr w3 g bs bl 1 [⟨1, row5⟩, ⟨1, row3⟩] from h3)
  clear t3 h3 H2 B2
  go_wp2_with fail
  refine (tr_win g bs bl 1 _ _ H3.out).mono ?_
  rw [FW.out]
  rintro e w4 ⟨rfl, h4, t4⟩
  have B4 := Lib.hid (t4.belowT B3.out n1 n2 n3)
  clear t4 h4 H3 B3
  go_wp2
  go_ret
  exact ⟨rfl, B4.out.alloc B4.out.size _⟩
end Go.Proofs.Ytgcfpepaapdjoaa
