/- Maps with string keys whose elements are told as the values they are: lookups and stores. -/
import Derived.Test.YtkbnfnfjmofcmaaLib
import Derived.Maps.OwnSet
import Derived.Maps.Ext
import Derived.Maps.RangeWalk
namespace Go.Proofs.Ytkbnfnfjmofcmaa
set_option linter.unusedVariables false
set_option linter.unusedSimpArgs false
open Go.RowKit Go.Maps Go.WideMaps

def tokR : Value → Option (DataW Value × List MemPlace) := fun v => some (.held v, [])
def kl (k : ByteArray) : Lit := .string k.data.toList
theorem kl_is (k : ByteArray) : WideAt.IsKeyLit (kl k) := trivial
theorem kl_inj {a b : ByteArray} (h : kl a = kl b) : a = b := by
  unfold kl at h
  injection h with h
  obtain ⟨⟨x⟩⟩ := a
  obtain ⟨⟨y⟩⟩ := b
  simpa using h
theorem kl_ne {a b : ByteArray} (h : a ≠ b) : kl a ≠ kl b := fun e => h (kl_inj e)
/-- What a map, told so, holds at a key. -/
def look (D : DataW Value) (k : ByteArray) : Option Value := match D.atKey (kl k) .nil with | .held v => some v | _ => none
/-- All its elements are values. -/
def Tok (D : DataW Value) : Prop := ∃ es, D = .map es ∧ ∀ p ∈ es, ∃ v, p.2 = .held v
theorem Tok.at {D : DataW Value} (h : Tok D) (k : ByteArray) (z : Value) : D.atKey (kl k) (.held z) = .held ((look D k).getD z) := by
  obtain ⟨es, rfl, h⟩ := h
  unfold look DataW.atKey
  cases hf : es.find? (fun p => p.1.sameKey (kl k)) with
  | none => simp [hf]
  | some p =>
    obtain ⟨v, hv⟩ := h p (List.mem_of_find?_eq_some hf)
    simp [hf, hv]
theorem Tok.has {D : DataW Value} (h : Tok D) (k : ByteArray) : Maps.has D (kl k) = (look D k).isSome := by
  obtain ⟨es, rfl, h⟩ := h
  unfold look DataW.atKey
  rw [Maps.has_eq]
  cases hf : es.find? (fun p => p.1.sameKey (kl k)) with
  | none =>
    simp only [hf]
    rw [List.find?_eq_none] at hf
    simp only [Option.isSome_none, List.any_eq_false]
    exact fun p hp => hf p hp
  | some p =>
    obtain ⟨v, hv⟩ := h p (List.mem_of_find?_eq_some hf)
    simp only [hf, hv]
    simp only [Option.isSome_some, List.any_eq_true]
    exact ⟨p, List.mem_of_find?_eq_some hf, by simpa using List.find?_some hf⟩
theorem Tok.look_put {D : DataW Value} (h : Tok D) (k : ByteArray) (v : Value) (k' : ByteArray) : look (D.put (kl k) (.held v)) k' = if k' = k then some v else look D k' := by
  have hm : IsMap D := by obtain ⟨es, rfl, _⟩ := h; exact ⟨es, rfl⟩
  unfold look
  by_cases e : k' = k
  · subst e
    rw [if_pos rfl, Maps.atKey_put_same hm (kl_is _)]
  · rw [if_neg e, Maps.atKey_put_other (kl_ne e)]
section
variable {P : Program} {K E T : TypeId} {w : World} {b n : Nat}
/-- Block b is a map of at most n entries that holds f. -/
def MAt (P : Program) (K : TypeId) (w : World) (b n : Nat) (f : ByteArray → Option Value) : Prop := ∃ D, w.ownsMap P K tokR b n D ∧ ∀ k, look D k = f k
theorem tok_of {D : DataW Value} (h : w.ownsMap P K tokR b n D) (L : Keyed P K) : Tok D := by
  obtain ⟨es, clock, hb, F, hs, rfl⟩ := h
  refine ⟨_, rfl, fun p hp => ?_⟩
  obtain ⟨x, hx, rfl⟩ := List.mem_map.1 (Go.mem_sorted.1 hp)
  obtain ⟨y, hy⟩ := F.reads x hx
  obtain ⟨z, hz, e⟩ := WideElems.rd_val hy
  rw [WideElems.rg_of hy, e]
  simp [tokR] at hz
  exact ⟨x.val, by rw [← hz]⟩
theorem MAt.new (P : Program) (K : TypeId) (w : World) : MAt P K (w.alloc (.map #[] 0)) w.heap.size 0 (fun _ => none) := ⟨_, World.ownsMap_made w P K tokR, fun _ => rfl⟩
theorem MAt.lt {f : ByteArray → Option Value} (h : MAt P K w b n f) : b < w.heap.size := by obtain ⟨D, h, _⟩ := h; exact h.lt
theorem MAt.turn {f : ByteArray → Option Value} {S : Nat → Prop} {w' : World} (h : MAt P K w b n f) (ht : Turn S w w') (hn : ¬ S b) : MAt P K w' b n f := by
  obtain ⟨D, h, hf⟩ := h
  obtain ⟨es, clock, hb, r⟩ := h
  exact ⟨D, ⟨es, clock, (ht.block b (Array.getElem?_eq_some_iff.1 hb).1 hn).trans hb, r⟩, hf⟩
theorem MAt.like {f : ByteArray → Option Value} {w' : World} (h : MAt P K w b n f) (e : w'.heap = w.heap) : MAt P K w' b n f := by
  obtain ⟨D, ⟨es, clock, hb, r⟩, hf⟩ := h
  exact ⟨D, ⟨es, clock, by rw [e]; exact hb, r⟩, hf⟩
theorem MAt.lookup {f : ByteArray → Option Value} (h : MAt P K w b n f) (hK : P.underlying K = some .string) (hT : P.underlying T = some (.map K E)) {z : Value} (hz : (zeroValue E).run P w = .ok z w) {k : ByteArray} (hk : k.size ≤ maxLen) :
    (Instr.lookup T (.map (some b)) (.string k) false).run P w = .ok ((f k).getD z) w := by
  obtain ⟨D, h, hf⟩ := h
  obtain ⟨v, ps, hr, hv⟩ := h.lookup (string_keyed hK) hT hz (zd := .held z) (zp := []) rfl (keyOf_string_mk hK hk)
  rw [hr]
  rw [show (Lit.string k.data.toList) = kl k from rfl, (tok_of h (string_keyed hK)).at] at hv
  simp [tokR] at hv
  rw [hv.1, hf]
theorem MAt.update {f : ByteArray → Option Value} (h : MAt P K w b n f) (hK : P.underlying K = some .string) (hT : P.underlying T = some (.map K E)) (hn : n < maxLen) {k : ByteArray} (hk : k.size ≤ maxLen) (v : Value) :
    ∃ w', (Instr.mapUpdate T (.map (some b)) (.string k) v).run P w = .ok () w' ∧ MAt P K w' b (n + 1) (fun k' => if k' = k then some v else f k') ∧ w.grownBy w' (some b) := by
  obtain ⟨D, h, hf⟩ := h
  obtain ⟨w', hr, ho, hg⟩ := h.update (string_keyed hK) hT hn (val := v) (d := .held v) (ps := []) (keyOf_string_mk hK hk) rfl
  refine ⟨w', hr, ⟨_, ho, fun k' => ?_⟩, hg⟩
  rw [show (Lit.string k.data.toList) = kl k from rfl, (tok_of h (string_keyed hK)).look_put, hf]
end

end Go.Proofs.Ytkbnfnfjmofcmaa
