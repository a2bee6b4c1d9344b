/- The list of the document's rows; and five lists that are marked. -/
import Derived.Test.YtmmfobbalhpomaaRJ
import Derived.Test.YtmmfobbalhpomaaAk
namespace Go.Proofs.Ytmmfobbalhpomaa
set_option linter.unusedVariables false
set_option linter.unusedSimpArgs false
open Go.RowKit

set_option maxRecDepth 100000 in
set_option maxHeartbeats 4000000 in
theorem plains_any (A : Option Addr) (n c : Nat) (rows : List Row) (w : World) (hn : rows.length = n) (hm : n < 16777216) (h : SliceRd w A 7 Row.cells rows) :
    Calls Try.prog 26 #[.slice A n c] w fun e w' => ∃ v, e = .returned v ∧ Own w' w.heap.size 42 7 Row.cells v rows ∧ Below w.heap.size w w' := by
  have HN := Lib.hid hn
  have HR := Lib.hid h
  clear hn h
  go_enter Try.func26, Try.ntmps26
  go_wp2_with fail
  go_loopw [3, 8] (fun out ix wr => ∃ (i : Nat) (Ao : Option Addr) (co : Nat), i ≤ n ∧ ix = .int .i64 i ∧ out = .slice Ao i co ∧ Hid (Own wr w.heap.size 42 7 Row.cells (.slice Ao i co) (rows.take i)) ∧ Hid (Below w.heap.size w wr)) (fun _ ix _ => n - (intOf ix).toNat)
  case atStart => exact ⟨0, none, 0, by omega, rfl, rfl, Lib.hid (Own.nil _ _ _ _ _), Lib.hid (Below.refl _ _)⟩
  case round =>
    obtain ⟨i, Ao, co, hi, rfl, rfl, HO, HB⟩ := hrel
    by_cases hlt : i < n
    · obtain ⟨x, hx⟩ : ∃ x, rows[i]? = some x := ⟨_, List.getElem?_eq_getElem (by rw [HN.out]; exact hlt)⟩
      obtain ⟨b0, off, rfl, hb0, hc⟩ := (HR.out.below HB.out).at hx
      have htk : rows.take (i + 1) = rows.take i ++ [x] := by rw [List.take_add_one, hx]; rfl
      obtain ⟨x0, x1, x2, x3, x4, x5, x6⟩ := x
      have HTK := Lib.hid htk
      have k0 := hc 0 (by omega)
      have k1 := hc 1 (by omega)
      have k2 := hc 2 (by omega)
      have k3 := hc 3 (by omega)
      have k4 := hc 4 (by omega)
      have k5 := hc 5 (by omega)
      have k6 := hc 6 (by omega)
      simp only [Row.cells, List.getElem?_cons_zero, List.getElem?_cons_succ, Nat.add_zero] at k0 k1 k2 k3 k4 k5 k6
      have hi0 : (0 : Int) ≤ (i : Int) := by omega
      have hi1 : (i : Int) < (n : Int) := by omega
      have hba := (Below.refl wr.heap.size wr).alloc (Nat.le_refl _) (.cells #[.int .i64 x0, .int .i64 x1, .int .i64 x2, .int .i64 x3, .int .i64 x4, .int .i64 x5, .string x6] 30)
      have HLI := Lib.hid (show (rows.take i).length = i by rw [List.length_take, HN.out]; omega)
      have HOA := Lib.hid (Own.below HO.out hba)
      have HBA := Lib.hid (HB.out.trans (hba.mono HB.out.size))
      clear hc hx hba htk
      go_wp2_with fail
      refine (plain7 x0 x1 x2 x3 x4 x5 x6 _).mono ?_
      rintro e w4 ⟨rfl, b4⟩
      have HO4 := Lib.hid (Own.below HOA.out b4)
      have HB4 := Lib.hid (HBA.out.trans (b4.mono HBA.out.size))
      have HSL := Lib.hid (show (rows.take i).length + 1 ≤ maxLen ∧ ((rows.take i).length + 1) * 64 ≤ 140737488355328 by rw [HLI.out]; unfold maxLen; omega)
      clear b4 k0 k1 k2 k3 k4 k5 k6 HO HB
      go_wp2_with (at_builtin; go_loud (refine push_list Row.cells 42 45 42 (.agg Row.zero.cells.toArray) 7 64 Try.underlying45 (by kernel_rfl) rfl (by decide) Row.cells_length row_one _ _ (by rfl) (by rfl) w.heap.size (.slice Ao i co) (rows.take i) (⟨x0, x1, x2, x3, x4, x5, x6⟩ : Row) (by rfl) (Own.alloc HO4.out _) w4.heap.size 1 (by rfl) (RowAt.new' _ _ 42 [.int .i64 x0, .int .i64 x1, .int .i64 x2, .int .i64 x3, .int .i64 x4, .int .i64 x5, .string x6] rfl) HSL.out.1 HSL.out.2 (by have := HB4.out.size; simp; omega) (w4.heap.size + 1) (by simp) ?_); intro g8 cap8 w8 o8 g8' l8 l9; have O8 := Lib.hid o8; have G8 := Lib.hid g8'; clear o8 g8' l8 l9)
      have HB8 := Lib.hid ((HB4.out.alloc HB4.out.size _).grown G8.out (by have := HB4.out.size; simp; omega) fun q hq => (Own.base HO4.out q hq).1)
      rw [HLI.out, ← HTK.out] at O8
      exact ⟨⟨i + 1, _, cap8, by omega, rfl, by rw [show min i rows.length = i by have := HN.out; omega], O8, HB8⟩, by show n - ((i : Int) + 1).toNat < n - (i : Int).toNat; omega⟩
    · obtain rfl : n = i := by omega
      have hall : rows.take n = rows := List.take_of_length_le (by rw [HN.out]; exact Nat.le_refl _)
      rw [hall] at HO
      go_wp2_with fail
      go_ret
      exact ⟨_, rfl, HO.out, HB.out⟩
/-- Five slices of the call's own, in blocks of their own. -/
structure Marks (w : World) (gs cs : List Nat) (n : Nat) (xss : List (List Row)) : Prop where
  own : ∀ (t g c : Nat) (xs : List Row), gs[t]? = some g → cs[t]? = some c → xss[t]? = some xs → Own w 0 30 7 Row.cells (.slice (some ⟨g, 0, none⟩) n c) xs
  nd : ∀ (s t g : Nat), gs[s]? = some g → gs[t]? = some g → s = t
theorem Marks.below {w w' : World} {gs cs : List Nat} {n : Nat} {xss : List (List Row)} (h : Marks w gs cs n xss) (hb : Below w.heap.size w w') : Marks w' gs cs n xss := ⟨fun t g c xs h1 h2 h3 => Own.below (h.own t g c xs h1 h2 h3) hb, h.nd⟩
theorem Marks.put {w : World} {gs cs : List Nat} {n : Nat} {xss : List (List Row)} (h : Marks w gs cs n xss) {i g c : Nat} {xs : List Row} (hg : gs[i]? = some g) (hc : cs[i]? = some c) (hx : xss[i]? = some xs) {k : Nat} (hk : k < xs.length) (y : Row) : Marks (wset w g (k * 7) y.cells) gs cs n (xss.set i (xs.set k y)) := by
  refine ⟨fun t g' c' xs' h1 h2 h3 => ?_, h.nd⟩
  by_cases e : i = t
  · subst e
    rw [hg] at h1
    rw [hc] at h2
    rw [List.getElem?_set, if_pos rfl, if_pos (List.getElem?_eq_some_iff.1 hx).1] at h3
    injection h1 with h1
    injection h2 with h2
    injection h3 with h3
    subst h1 h2 h3
    exact Own.put Row.cells_length (h.own i g c xs hg hc hx) hk y
  · rw [List.getElem?_set, if_neg e] at h3
    exact Own.turn (h.own t g' c' xs' h1 h2 h3) (Turn.wset (S := fun q => q = g) (.inl rfl) _ _ (Turn.refl _ _)) fun q hq e2 => e (h.nd i t g hg (by
      have : g' = q := by simpa [Value.ownBlock] using hq
      rw [h1, this, e2]))
/-- The block that holds the five. -/
def fiveC (gs cs : List Nat) (n : Nat) : List Value := (gs.zip cs).map fun p => .slice (some ⟨p.1, 0, none⟩) n p.2
theorem five_at {gs cs : List Nat} {n i g c : Nat} (hg : gs[i]? = some g) (hc : cs[i]? = some c) : (fiveC gs cs n)[i]? = some (.slice (some ⟨g, 0, none⟩) n c) := by
  unfold fiveC
  have hz : (gs.zip cs)[i]? = some (g, c) := List.getElem?_zip_eq_some.2 ⟨hg, hc⟩
  rw [List.getElem?_map, hz]
  rfl
def mkR (k : Int) : Row := ⟨k, 0, 0, 0, 0, 0, ⟨#[]⟩⟩

end Go.Proofs.Ytmmfobbalhpomaa
