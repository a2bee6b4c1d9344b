/- A map that is ranged over while its elements are put anew. -/
import Derived.Test.YtkbnfnfjmofcmaaMp
namespace Go.Proofs.Ytkbnfnfjmofcmaa
set_option linter.unusedVariables false
set_option linter.unusedSimpArgs false
open Go.RowKit Go.Maps Go.WideMaps Go.WideElems Go.ChangeMaps Go.MapKept

theorem setBlock_inj {w : World} {b : Nat} {o o' : Obj} (hb : b < w.heap.size) (h : ChangeMaps.setBlock w b o = ChangeMaps.setBlock w b o') : o = o' := by
  have h1 := congrArg (fun x : World => x.heap[b]?) h
  simpa [ChangeMaps.setBlock, hb] using h1
section
variable {H : Type} {P : Program} {k : TypeId} {R : Value → Option (DataW H × List MemPlace)} {w : World} {b r n : Nat} {D : DataW H} {left : Lit → Bool} {cnt : Nat}
/-- 'm[k] = v' at a key that is there, while m is ranged over. -/
theorem ranges_put {t e : TypeId} (h : w.ranges P k R b r n D left cnt) (K : Keyed P k) (ht : P.underlying t = some (.map k e)) {key val : Value} {kl : Lit} (hkey : keyOf P k key = some kl) (hhas : Maps.has D kl = true) {d : DataW H} {ps : List MemPlace} (hv : R val = some (d, ps)) (hn : n < maxLen) :
    ∃ w', (Instr.mapUpdate t (.map (some b)) key val).run P w = .ok () w' ∧ w'.ranges P k R b r n (D.put kl d) left cnt ∧ w.grownBy w' (some b) ∧ w'.heap.size = w.heap.size := by
  have hne := h.ne
  obtain ⟨es, clock, since, seen, c0, hb, F, hs, rfl, hr, hold, rfl, hl1, hl2, hsc, hsk⟩ := h
  have hbl : b < w.heap.size := (Array.getElem?_eq_some_iff.1 hb).1
  obtain ⟨es1, clock1, hrun1, F1, hput, -, -, -⟩ := fit_store (R' := R) K ht hb F (Nat.lt_of_le_of_lt hs hn) (fun _ _ _ _ hz => hz) hkey hv
  rcases K.find w hkey es.toList F.keys with ⟨h1, h2⟩ | ⟨j, e0, h1, h2, h3⟩
  · exfalso
    obtain ⟨p, hp, hpk⟩ := List.any_eq_true.1 hhas
    obtain ⟨x, hx, rfl⟩ := List.mem_map.1 (Go.mem_sorted.1 hp)
    obtain ⟨y, hy⟩ := F.reads x hx
    have e1 := WideAt.sameKey_eq hpk
    rw [rg_of hy] at e1
    exact h2 x hx (K.inj (e1 ▸ rd_key hy) hkey)
  · have hj : es[j]? = some e0 := by simpa using h2
    have hjl : j < es.toList.length := (List.getElem?_eq_some_iff.1 h2).1
    have hrun2 : (Instr.mapUpdate t (.map (some b)) key val).run P w = .ok () (ChangeMaps.setBlock w b (.map (es.modify j (fun e' => { e' with key := key, val := val })) clock)) := by
      simp [Instr.mapUpdate, run_underlying ht, MapKept.run_getObj_map hb, K.check w false hkey, h1, hj, h3, K.stays w hkey, MapKept.run_setObj_map _ hb, Result.andThen, ChangeMaps.setBlock]
    rw [hrun1] at hrun2
    injection hrun2 with _ hrun2
    have he := setBlock_inj hbl hrun2
    injection he with he1 he2
    subst he1
    subst he2
    have hlist : (es.modify j (fun e' => { e' with key := key, val := val })).toList = es.toList.set j { e0 with key := key, val := val } := by rw [Array.toList_modify, modify_eq_set _ _ _ _ h2]
    have hm0 : e0 ∈ es.toList := List.mem_of_getElem? h2
    have who : ∀ x ∈ es.toList.set j { e0 with key := key, val := val }, x = { e0 with key := key, val := val } ∨ x ∈ es.toList := by
      intro x hx
      obtain ⟨i, hi, ex⟩ := List.getElem_of_mem hx
      rw [List.getElem_set] at ex
      split at ex
      · exact Or.inl ex.symm
      · exact Or.inr (ex ▸ List.getElem_mem (by simpa using hi))
    have r0 : (rg P k R e0).1 = kl := by
      obtain ⟨y, hy⟩ := F.reads e0 hm0
      have m1 := rd_key hy
      rw [h3, hkey] at m1
      rw [rg_of hy]
      exact (Option.some.inj m1).symm
    have r1 : (rg P k R { e0 with key := key, val := val }).1 = kl := by rw [rg_of (rd_mk hkey hv)]
    refine ⟨_, hrun1, ⟨es.modify j (fun e' => { e' with key := key, val := val }), _, since, seen, c0, ChangeMaps.heap_setBlock_same hb _, F1, by simpa using hs, by rw [DataW.put_eq, hput], (ChangeMaps.heap_setBlock_other hb _ hne).trans hr, fun x hx => ?_, ?_, fun x hx => ?_, fun x0 hx0 => ?_, hsc, hsk⟩, ⟨rfl, rfl, rfl, by simp [ChangeMaps.setBlock], fun i _ hi => ChangeMaps.heap_setBlock_other hb _ (fun e => hi (by rw [e]))⟩, by simp [ChangeMaps.setBlock]⟩
    · rw [hlist] at hx
      rcases who x hx with rfl | hx
      · exact hold e0 hm0
      · exact hold x hx
    · have e1 : ∀ a : Array MapEntry, (leftOf a seen).size = (a.toList.map MapEntry.born).countP fun q => !seen.contains q := fun a => by
        unfold leftOf
        rw [← Array.length_toList, Array.toList_filter, ← List.countP_eq_length_filter, List.countP_map]
        rfl
      rw [e1, e1, hlist, List.map_set]
      congr 1
      apply List.ext_getElem?
      intro i
      rw [List.getElem?_set]
      split
      · rename_i hij
        subst hij
        rw [if_pos (by simpa using hjl), List.getElem?_map, h2]
        rfl
      · rfl
    · rw [hlist] at hx
      rcases who x hx with rfl | hx
      · rw [r1, ← r0]
        exact hl1 e0 hm0
      · exact hl1 x hx
    · obtain ⟨x, hx, rfl⟩ := hl2 x0 hx0
      rw [hlist]
      obtain ⟨i, hi, ex⟩ := List.getElem_of_mem hx
      by_cases hij : i = j
      · subst hij
        rw [List.getElem?_eq_getElem hi, ex] at h2
        cases h2
        exact ⟨_, List.mem_iff_getElem.2 ⟨i, by simpa using hi, by rw [List.getElem_set_self]⟩, r1.trans r0.symm⟩
      · exact ⟨x, List.mem_iff_getElem.2 ⟨i, by simpa using hi, by rw [List.getElem_set_ne (fun e => hij e.symm), ex]⟩, rfl⟩
end
section
variable {P : Program} {K E T : TypeId} {w : World} {b r n cl : Nat} {left : Lit → Bool} {f : ByteArray → Option Value}
/-- Block r ranges over the map of block b, which holds f; left: which keys are still to come. -/
def MRg (P : Program) (K : TypeId) (w : World) (b r n : Nat) (f : ByteArray → Option Value) (left : Lit → Bool) (cl : Nat) : Prop := ∃ D, w.ranges P K tokR b r n D left cl ∧ ∀ k, look D k = f k
theorem MRg.mat (h : MRg P K w b r n f left cl) : MAt P K w b n f := by obtain ⟨D, h, hf⟩ := h; exact ⟨D, h.owns, hf⟩
theorem MRg.left_eq (h : MRg P K w b r n f left cl) : w.rangeLeft b r = cl := by obtain ⟨D, h, hf⟩ := h; exact h.left_eq
theorem MRg.kept {w' : World} {row : Option Nat} (h : MRg P K w b r n f left cl) (hg : w.grownBy w' row) (hb : some b ≠ row) (hr : some r ≠ row) : MRg P K w' b r n f left cl := by obtain ⟨D, h, hf⟩ := h; exact ⟨D, h.kept hg hb hr, hf⟩
theorem MRg.lt (h : MRg P K w b r n f left cl) : r < w.heap.size := by obtain ⟨D, h, hf⟩ := h; exact h.lt
theorem MRg.ne (h : MRg P K w b r n f left cl) : r ≠ b := by obtain ⟨D, h, hf⟩ := h; exact h.ne
theorem MRg.far (h : MRg P K w b r n f left cl) {g : Nat} {U : TypeId} {cs : List Value} (hr : RowAt w g U cs) : g ≠ r := by
  rintro rfl
  obtain ⟨D, ⟨es, clock, since, seen, c0, -, -, -, -, h2, -⟩, -⟩ := h
  unfold RowAt at hr
  rw [hr] at h2
  injection h2 with h2
  cases h2
theorem MAt.range (h : MAt P K w b n f) (hK : P.underlying K = some .string) (hT : P.underlying T = some (.map K E)) :
    ∃ w' left cl, (Instr.range T (.map (some b))).run P w = .ok (.pointer (some ⟨w.heap.size, 0, none⟩)) w' ∧ MRg P K w' b w.heap.size n f left cl ∧ (∀ k, left (kl k) = (f k).isSome) ∧ w.grownBy w' none ∧ w'.heap.size = w.heap.size + 1 := by
  obtain ⟨D, h, hf⟩ := h
  obtain ⟨w', h1, h2, h3, h4⟩ := h.range (string_keyed hK) hT
  exact ⟨w', Maps.has D, Maps.size D, h1, ⟨D, h2, hf⟩, fun k => by rw [(tok_of h (string_keyed hK)).has, hf], h3, h4⟩
theorem left_next (left : Lit → Bool) (x k : ByteArray) : (left (kl k) && !(kl k).sameKey (kl x)) = if k = x then false else left (kl k) := by
  by_cases h : k = x
  · subst h
    rw [WideAt.sameKey_self (kl_is k), if_pos rfl]
    simp
  · rw [Maps.sameKey_ne (kl_ne h), if_neg h]
    simp
theorem MRg.next (h : MRg P K w b r n f left cl) (hK : P.underlying K = some .string) (ty : TypeId) :
    (cl = 0 ∧ (∀ k, left (kl k) = false) ∧ (Instr.next (.pointer (some ⟨r, 0, none⟩)) false ty).run P w = .ok (.tuple #[.bool false]) w) ∨
    ∃ x v w' cl', x.size ≤ maxLen ∧ left (kl x) = true ∧ f x = some v ∧ (Instr.next (.pointer (some ⟨r, 0, none⟩)) false ty).run P w = .ok (.tuple #[.bool true, .string x, v]) w' ∧
      MRg P K w' b r n f (fun z => left z && !z.sameKey (kl x)) cl' ∧ cl' < cl ∧ w.grownBy w' (some r) ∧ w'.heap.size = w.heap.size ∧ (Instr.entry (.pointer (some ⟨r, 0, none⟩))).run P w' = .ok (.tuple #[.string x, v]) w' := by
  obtain ⟨D, h, hf⟩ := h
  rcases h.next (string_keyed hK) ty with ⟨h0, hl, hrun⟩ | ⟨key, v, l, y, w', cl', hkey, hlk, hv, hat, hrun, hrg, hlt, hgr, hsz, hen⟩
  · exact .inl ⟨h0, fun k => hl _, hrun⟩
  · obtain ⟨x, rfl, rfl, hx⟩ := string_of_keyOf hK hkey
    refine .inr ⟨x, v, w', cl', hx, hlk, ?_, hrun, ⟨D, hrg, hf⟩, hlt, hgr, hsz, hen⟩
    have h1 := hat .nil
    simp [tokR] at hv
    rw [← hf, look, show kl x = Lit.string x.data.toList from rfl, h1, ← hv]
theorem MRg.put (h : MRg P K w b r n f left cl) (hK : P.underlying K = some .string) (hT : P.underlying T = some (.map K E)) {x : ByteArray} (hx : x.size ≤ maxLen) (hf : (f x).isSome = true) (hn : n < maxLen) (v : Value) :
    ∃ w', (Instr.mapUpdate T (.map (some b)) (.string x) v).run P w = .ok () w' ∧ MRg P K w' b r n (fun k => if k = x then some v else f k) left cl ∧ w.grownBy w' (some b) ∧ w'.heap.size = w.heap.size := by
  obtain ⟨D, h, hD⟩ := h
  have ht := tok_of h.owns (string_keyed hK)
  obtain ⟨w', h1, h2, h3, h4⟩ := ranges_put h (string_keyed hK) hT (val := v) (keyOf_string_mk hK hx) (by rw [show Lit.string x.data.toList = kl x from rfl, ht.has, hD]; exact hf) (d := .held v) (ps := []) rfl hn
  exact ⟨w', h1, ⟨_, h2, fun k => by rw [show Lit.string x.data.toList = kl x from rfl, ht.look_put, hD]⟩, h3, h4⟩
end

end Go.Proofs.Ytkbnfnfjmofcmaa
