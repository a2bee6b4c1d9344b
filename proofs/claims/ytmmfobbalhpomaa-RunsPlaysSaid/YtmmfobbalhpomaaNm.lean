/- Numbered rows, and the order in which they come out. -/
import Derived.Test.YtmmfobbalhpomaaR
import Derived.Test.YtmmfobbalhpomaaHp
import Derived.Deep.RegionHeld3
namespace Go.Proofs.Ytmmfobbalhpomaa
set_option linter.unusedVariables false
set_option linter.unusedSimpArgs false
open Go.RowKit

structure Nm where
  row : Row
  at_ : Int
def Nm.cells (x : Nm) : List Value := [.int .i64 x.row.kind, .int .i64 x.row.time, .int .i64 x.row.seq, .int .i64 x.row.index, .int .i64 x.row.frm, .int .i64 x.row.to, .string x.row.body, .int .i64 x.at_]
theorem Nm.len (x : Nm) : x.cells.length = 8 := rfl
def Nm.zero : Nm := ⟨Row.zero, 0⟩
def ltN (o : Int) (a b : Nm) : Bool := if cmpRow o a.row b.row < 0 then true else if cmpRow o a.row b.row = 0 then decide (a.at_ < b.at_) else false
theorem cmpI_lt (a b : Int) : (cmpI a b < 0 ↔ a < b) ∧ (cmpI a b = 0 ↔ a = b) := by
  unfold cmpI
  split
  · constructor <;> constructor <;> intro h <;> omega
  · split <;> constructor <;> constructor <;> intro h <;> omega
/-- The order of numbered rows as a chain of four numbers. -/
def key (o : Int) (a : Nm) : Int × Int × Int × Int := (a.row.time, (if o = 1 then a.row.kind else a.row.seq), a.row.index, a.at_)
def ltK (a b : Int × Int × Int × Int) : Prop := a.1 < b.1 ∨ (a.1 = b.1 ∧ (a.2.1 < b.2.1 ∨ (a.2.1 = b.2.1 ∧ (a.2.2.1 < b.2.2.1 ∨ (a.2.2.1 = b.2.2.1 ∧ a.2.2.2 < b.2.2.2)))))
theorem ltN_iff {o : Int} (ho : o = 1 ∨ o = 2) (a b : Nm) : ltN o a b = true ↔ ltK (key o a) (key o b) := by
  obtain ⟨⟨k1, t1, s1, i1, f1, o1, b1⟩, a1⟩ := a
  obtain ⟨⟨k2, t2, s2, i2, f2, o2, b2⟩, a2⟩ := b
  unfold ltN ltK key cmpRow
  rcases ho with rfl | rfl
  · simp only [if_true, orI3, cmpI]
    repeat' split
    all_goals simp
    all_goals omega
  · simp only [if_neg (show ¬ (2 : Int) = 1 by decide), if_true, orI3, cmpI]
    repeat' split
    all_goals simp
    all_goals omega
theorem ltN_tot {o : Int} (ho : o = 1 ∨ o = 2) : Tot (ltN o) := by
  have h1 : ∀ a b, ltN o a b = false ↔ ¬ ltK (key o a) (key o b) := fun a b => by rw [← ltN_iff ho, Bool.not_eq_true]
  refine ⟨fun a b h => ?_, fun a b c h k => ?_⟩
  · rw [h1]
    rw [ltN_iff ho] at h
    unfold ltK at *
    omega
  · rw [h1] at *
    unfold ltK at *
    omega
set_option maxRecDepth 100000 in
set_option maxHeartbeats 1600000 in
theorem less_any (o : Int) (ho : o = 1 ∨ o = 2) (a b : Nm) (ob : Nat) (w : World) (h : RowAt w ob 3 [.int .i64 o]) :
    Calls Try.prog 35 #[.agg a.cells.toArray, .agg b.cells.toArray, .pointer (some ⟨ob, 0, none⟩)] w fun e w' => e = .returned (.bool (ltN o a b)) ∧ Below w.heap.size w w' := by
  obtain ⟨⟨k1, t1, s1, i1, f1, o1, b1⟩, a1⟩ := a
  obtain ⟨⟨k2, t2, s2, i2, f2, o2, b2⟩, a2⟩ := b
  have HO := Lib.hid h
  have hoc := h.cell 0
  have hol := h.lt
  simp only [Nm.cells]
  obtain ⟨res, hres⟩ : ∃ r, r = ltN o ⟨⟨k1, t1, s1, i1, f1, o1, b1⟩, a1⟩ ⟨⟨k2, t2, s2, i2, f2, o2, b2⟩, a2⟩ := ⟨_, rfl⟩
  rw [← hres]
  have HRes := Lib.hid hres
  clear h hres
  go_enter Try.func35, Try.ntmps35
  go_wp2_with fail
  have BX1 := Lib.hid ((RowAt.new w 74 (Nm.cells ⟨⟨k1, t1, s1, i1, f1, o1, b1⟩, a1⟩)).alloc (.cells (Nm.cells ⟨⟨k2, t2, s2, i2, f2, o2, b2⟩, a2⟩).toArray 74))
  have BX2 := Lib.hid (RowAt.new' (w.alloc (.cells (Nm.cells ⟨⟨k1, t1, s1, i1, f1, o1, b1⟩, a1⟩).toArray 74)) (w.heap.size + 1) 74 (Nm.cells ⟨⟨k2, t2, s2, i2, f2, o2, b2⟩, a2⟩) (by simp))
  have hsz : ((w.alloc (.cells (Nm.cells ⟨⟨k1, t1, s1, i1, f1, o1, b1⟩, a1⟩).toArray 74)).alloc (.cells (Nm.cells ⟨⟨k2, t2, s2, i2, f2, o2, b2⟩, a2⟩).toArray 74)).heap.size = w.heap.size + 2 := by simp
  have B0 := Lib.hid (((Below.refl w.heap.size w).alloc (Nat.le_refl _) (.cells (Nm.cells ⟨⟨k1, t1, s1, i1, f1, o1, b1⟩, a1⟩).toArray 74)).alloc (by simp) (.cells (Nm.cells ⟨⟨k2, t2, s2, i2, f2, o2, b2⟩, a2⟩).toArray 74))
  refine (cmp_any o ho ⟨k1, t1, s1, i1, f1, o1, b1⟩ ⟨k2, t2, s2, i2, f2, o2, b2⟩ _).mono ?_
  rintro e w1 ⟨rfl, hb1⟩
  have y1 := (BX1.out.below hb1).cell 7
  have y2 := (BX2.out.below hb1).cell 7
  have B1 := Lib.hid (B0.out.trans (hb1.mono (by simp; omega)))
  obtain ⟨c, hc⟩ : ∃ c, c = cmpRow o ⟨k1, t1, s1, i1, f1, o1, b1⟩ ⟨k2, t2, s2, i2, f2, o2, b2⟩ := ⟨_, rfl⟩
  rw [← hc]
  have hr : res = if c < 0 then true else if c = 0 then decide (a1 < a2) else false := by rw [HRes.out, hc]; rfl
  have HR := Lib.hid hr
  simp only [Nm.cells, List.getElem?_cons_succ, List.getElem?_cons_zero] at y1 y2
  clear hb1 hc hr hoc hsz B0 BX1 BX2
  by_cases h1 : c < 0
  · have e : res = true := by rw [HR.out, if_pos h1]
    subst e
    go_wp2_with fail
    go_ret
    exact ⟨by simp, B1.out⟩
  · by_cases h2 : c = 0
    · subst h2
      have e : res = decide (a1 < a2) := by rw [HR.out, if_neg h1, if_pos rfl]
      subst e
      go_wp2_with fail
      go_ret
      exact ⟨by simp, B1.out⟩
    · have e : res = false := by rw [HR.out, if_neg h1, if_neg h2]
      subst e
      have hcz : (c == 0) = false := by simpa using h2
      go_wp2_with fail
      go_ret
      exact ⟨by simp; omega, B1.out⟩
end Go.Proofs.Ytmmfobbalhpomaa
