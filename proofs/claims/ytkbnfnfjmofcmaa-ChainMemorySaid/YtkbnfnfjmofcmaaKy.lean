/- The keys of a store. -/
import Derived.Test.YtkbnfnfjmofcmaaC5
import Derived.Test.YtkbnfnfjmofcmaaIter
namespace Go.Proofs.Ytkbnfnfjmofcmaa
set_option linter.unusedVariables false
set_option linter.unusedSimpArgs false
open Go.RowKit Go.Maps Go.Sort

def strC (k : ByteArray) : List Value := [.string k]
theorem own_form {α : Type} {w : World} {base : Nat} {e : TypeId} {size : Nat} {f : α → List Value} {v : Value} {xs : List α} (h : Own w base e size f v xs) : ∃ A c, v = .slice A xs.length c := by
  rcases h.cases with ⟨rfl, rfl⟩ | ⟨g, cap, rest, rfl, -⟩
  · exact ⟨none, 0, rfl⟩
  · exact ⟨_, _, rfl⟩
theorem own_str {w : World} {base : Nat} {e : TypeId} {A : Option Addr} {n cap : Nat} {ks : List ByteArray} (h : Own w base e 1 strC (.slice A n cap) ks) {j : Nat} (hj : j < ks.length) :
    ∃ g k, A = some ⟨g, 0, none⟩ ∧ ks[j]? = some k ∧ k ∈ ks ∧ w.cell? ⟨g, j, none⟩ = some (.string k) := by
  rcases h.cases with ⟨h, rfl⟩ | ⟨g, cap, rest, e1, h2, h3, h4, h5⟩
  · simp at hj
  · injection e1 with e1 e2 e3
    refine ⟨g, ks[j], e1, List.getElem?_eq_getElem hj, List.getElem_mem hj, ?_⟩
    have hl := flat_length (f := strC) (n := 1) (fun _ => rfl) ks
    have ha := flat_at (f := strC) (n := 1) (fun _ => rfl) ks j 0 (by omega) (List.getElem?_eq_getElem hj)
    rw [h5.cell, List.getElem?_append_left (by omega)]
    simpa [strC] using ha
def klt (a b : ByteArray) : Prop := a.data.toList < b.data.toList
/-- ks: the keys that hold something, rising. -/
structure KeysOf (st : ByteArray → List Ver) (ks : List ByteArray) : Prop where
  up : ks.Pairwise klt
  mem : ∀ k, k ∈ ks ↔ st k ≠ []
theorem klt_irrefl (a : ByteArray) : ¬ klt a a := List.lt_irrefl _
theorem klt_asymm {a b : ByteArray} (h : klt a b) : ¬ klt b a := List.lt_asymm h
theorem klt_trans {a b c : ByteArray} (h : klt a b) (k : klt b c) : klt a c := List.lt_trans h k
theorem up_nodup {ks : List ByteArray} (h : ks.Pairwise klt) : ks.Nodup := h.imp fun h e => by subst e; exact klt_irrefl _ h
theorem up_unique {a b : List ByteArray} (ha : a.Pairwise klt) (hb : b.Pairwise klt) (h : ∀ k, k ∈ a ↔ k ∈ b) : a = b := by
  refine List.Perm.eq_of_pairwise (fun x y _ _ h1 h2 => absurd h2 (klt_asymm h1)) ha hb ?_
  exact (List.perm_ext_iff_of_nodup (up_nodup ha) (up_nodup hb)).2 h
theorem KeysOf.unique {st st' : ByteArray → List Ver} {a b : List ByteArray} (ha : KeysOf st a) (hb : KeysOf st' b) (h : ∀ k, st k ≠ [] ↔ st' k ≠ []) : a = b :=
  up_unique ha.up hb.up fun k => by rw [ha.mem, hb.mem, h]
theorem bytes_mk (k : ByteArray) : (⟨k.data.toList.toArray⟩ : ByteArray) = k := by obtain ⟨⟨l⟩⟩ := k; rfl
theorem Tok.isMap {D : DataW Value} (h : Tok D) : IsMap D := by obtain ⟨es, rfl, _⟩ := h; exact ⟨_, rfl⟩
theorem sorted_keys {w : World} {b n : Nat} {D : DataW Value} (h : w.ownsMap Try.prog 9 tokR b n D) {ss : List (List UInt8)} (hS : ss.Perm (strKeys D)) :
    (((ss.mergeSort (fun x y => decide (x ≤ y))).map fun l => (⟨l.toArray⟩ : ByteArray)).Pairwise klt) ∧ ∀ k, k ∈ ((ss.mergeSort (fun x y => decide (x ≤ y))).map fun l => (⟨l.toArray⟩ : ByteArray)) ↔ (look D k).isSome = true := by
  have K := key_law
  obtain ⟨es, hD, hpw, _⟩ := h.entries K
  obtain ⟨es', hD', hko⟩ := h.keysOf
  obtain rfl : es = es' := by rw [hD] at hD'; simpa using hD'
  have hk : ∀ p ∈ es, ∃ x, p.1 = .string x := fun p hp => by
    obtain ⟨v, hv⟩ := hko p hp
    obtain ⟨x, _, hx, _⟩ := Maps.keyOf_str Try.underlying9 hv
    exact ⟨x, hx⟩
  have hT := tok_of h K
  subst hD
  have hnd : (strKeys (.map es : DataW Value)).Nodup := by
    show (es.map fun p => strOf p.1).Nodup
    refine List.pairwise_map.2 (hpw.imp_of_mem fun {p q} hp' hq' hne e => hne ?_)
    obtain ⟨a, ha⟩ := hk p hp'
    obtain ⟨b, hb⟩ := hk q hq'
    rw [ha, hb] at e ⊢
    exact congrArg _ e
  have hmem : ∀ x, x ∈ strKeys (.map es : DataW Value) ↔ has (.map es) (.string x) = true := by
    intro x
    rw [has_eq, List.any_eq_true]
    show x ∈ (es.map fun p => strOf p.1) ↔ _
    rw [List.mem_map]
    constructor
    · rintro ⟨p, hp', rfl⟩
      obtain ⟨a, ha⟩ := hk p hp'
      exact ⟨p, hp', by rw [ha]; simp [Lit.sameKey, strOf]⟩
    · rintro ⟨p, hp', hs⟩
      obtain ⟨a, ha⟩ := hk p hp'
      rw [ha] at hs
      exact ⟨p, hp', by rw [ha]; simpa [Lit.sameKey, strOf] using hs⟩
  have hpm := (List.mergeSort_perm ss (fun x y => decide (x ≤ y))).trans hS
  have tr : ∀ a b c : List UInt8, decide (a ≤ b) = true → decide (b ≤ c) = true → decide (a ≤ c) = true := fun a b c h1 h2 => by simp only [decide_eq_true_eq] at *; exact List.le_trans h1 h2
  have tot : ∀ a b : List UInt8, (decide (a ≤ b) || decide (b ≤ a)) = true := fun a b => by simp only [Bool.or_eq_true, decide_eq_true_eq]; exact List.le_total a b
  have hle := List.pairwise_mergeSort tr tot ss
  have hnd2 : (ss.mergeSort (fun x y => decide (x ≤ y))).Nodup := hpm.nodup_iff.2 hnd
  constructor
  · refine List.pairwise_map.2 ?_
    refine (hle.and hnd2).imp fun {a b} h => ?_
    obtain ⟨h1, h2⟩ := h
    simp only [decide_eq_true_eq] at h1
    show a < b
    by_cases hlt : a < b
    · exact hlt
    · exact absurd (List.le_antisymm h1 (List.not_lt.1 hlt)) h2
  · intro k
    rw [← hT.has, List.mem_map]
    show _ ↔ has (.map es) (.string k.data.toList) = true
    rw [← hmem]
    constructor
    · rintro ⟨l, hl, rfl⟩
      exact hpm.mem_iff.1 hl
    · intro hl
      exact ⟨_, hpm.mem_iff.2 hl, bytes_mk k⟩
set_option maxHeartbeats 1000000 in
theorem keys_any (F : Nat → Prop) (p cnt N : Nat) (st : ByteArray → List Ver) (w : World) (h : SAt F w p cnt N st) (hN : N < 3000000000000) :
    Calls Try.prog 18 #[.pointer (some ⟨p, 0, none⟩)] w fun e w' => ∃ v ks, e = .returned v ∧ KeysOf st ks ∧ Own w' w.heap.size 9 1 strC v ks ∧ Below w.heap.size w w' ∧ (∀ k ∈ ks, k.size ≤ maxLen) ∧ ks.length ≤ N := by
  obtain ⟨b, n, f, h1, ⟨D, hown, hf⟩, h3, h4, h5, h6, h7, h8, h9⟩ := h
  have hsz := hown.size_le
  have hml : 3000000000000 ≤ maxLen := by decide
  have hlen : (strKeys D).length = Maps.size D := by
    obtain ⟨es, hD, _, _⟩ := hown.entries key_law
    subst hD
    exact List.length_map _
  have hkl := strKeys_le hown Try.underlying9
  have c0 := h1.cell 0
  simp only [List.getElem?_cons_zero] at c0
  refine (callsIn_wide (n := 6)).1 ?_
  have hfK : Fence.wide.fn 29 := trivial
  have hfS : Fence.wide.fn 28 := trivial
  refine _root_.Go.callsIn_of_wp Try.func18 rfl trivial ?_ (by rfl)
  simp only [Try.ntmps18, List.size_toArray, List.length_cons, List.length_nil, Nat.reduceAdd, Nat.reduceSub, Array.replicate_succ, Array.replicate_zero, List.push_toArray, List.append_toArray, List.nil_append, List.cons_append]
  gi_wp2_with (first
    | (gi_at_call 29; go_loud (refine (Try.maps_Keys_29 _ _).mono ?_; rintro e w' ⟨rfl, rfl⟩))
    | (gi_at_call 28; go_loud (refine (Try.slices_Sorted_keys_28_29 b n D _ w hown (by omega) (by omega)).mono ?_; rintro e w' ⟨v, ss, rfl, hS, hrow, hnil, hb⟩)))
  go_ret
  obtain ⟨k1, k2⟩ := sorted_keys hown hS
  have hl : ((ss.mergeSort (fun x y => decide (x ≤ y))).map fun l => (⟨l.toArray⟩ : ByteArray)).length = ss.length := by simp
  refine ⟨v, _, rfl, ⟨k1, fun k => ?_⟩, ?_, ((Below.refl _ w).alloc (Nat.le_refl _) _).trans (hb.mono (by simp)), ?_, ?_⟩
  · rw [k2, hf]
    cases e : f k with
    | none => simp [h3.no k e]
    | some v => simp [(h3.yes k v e).2.1]
  · have := ownsRow_base_a hrow (base' := w.heap.size) (by simp)
    unfold Own
    rw [hl]
    have e : ∀ l : List (List UInt8), (l.map fun l => (⟨l.toArray⟩ : ByteArray)).flatMap strC = l.map encStr := fun l => by
      induction l with
      | nil => rfl
      | cons a l ih => rw [List.map_cons, List.flatMap_cons, List.map_cons, ih]; rfl
    rw [e]
    exact this
  · intro k hk
    obtain ⟨l, hl, rfl⟩ := List.mem_map.1 hk
    have := hkl l (hS.mem_iff.1 ((List.mergeSort_perm _ _).mem_iff.1 hl))
    show l.toArray.size ≤ maxLen
    simpa using this
  · rw [hl, hS.length_eq, hlen]
    omega

end Go.Proofs.Ytkbnfnfjmofcmaa
