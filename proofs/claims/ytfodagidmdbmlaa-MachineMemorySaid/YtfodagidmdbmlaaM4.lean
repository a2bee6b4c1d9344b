/- add. -/
import Derived.Test.YtfodagidmdbmlaaM3
import Derived.Test.YtfodagidmdbmlaaApp
import Derived.Deep.RegionLaw
namespace Go.Proofs.Ytfodagidmdbmlaa
set_option linter.unusedVariables false
set_option linter.unusedSimpArgs false
open Go.RowKit

theorem op_one (x : MOp) : ∀ u ∈ x.cells, u.oneCell' = true := by
  intro u hu
  simp [MOp.cells] at hu
  rcases hu with rfl | rfl | rfl | rfl <;> rfl
theorem int_one (x : Int) : ∀ u ∈ intC x, u.oneCell' = true := by
  intro u hu
  simp [intC] at hu
  rw [hu]
  rfl
theorem own_two {α β : Type} {w : World} {base base' : Nat} {e e' : TypeId} {s s' : Nat} {f : α → List Value} {f' : β → List Value} {v v' : Value} {xs : List α} {ys : List β} (h : Own w base e s f v xs) (h' : Own w base' e' s' f' v' ys) (ne : e ≠ e') (g : Nat) (hg : v.ownBlock = some g) : v'.ownBlock ≠ some g := by
  rcases h.cases with ⟨rfl, -⟩ | ⟨g', cap, rest, rfl, -, -, -, hr'⟩
  · simp [Value.ownBlock] at hg
  · have e1 : g' = g := by simpa [Value.ownBlock] using hg
    subst e1
    exact own_far h' hr' (Ne.symm ne)
/-- What add leaves. -/
def AddPost (w : World) (r : Run) (q : Pl) (i : Nat) (o : MOp) (t : Int) (e : Ending) (w' : World) : Prop :=
  e = .returned (.tuple #[]) ∧ ∃ q' : Pl, q'.b = q.b ∧ AAt w' { r with ops := r.ops ++ [o], times := r.times ++ [t] } q' i ∧ (∀ g, q'.ov.ownBlock = some g → q.ov.ownBlock = some g ∨ w.heap.size ≤ g) ∧ (∀ g, q'.sv.ownBlock = some g → q.sv.ownBlock = some g ∨ w.heap.size ≤ g) ∧
    Turn (fun k => k = q.b ∨ q.ov.ownBlock = some k ∨ q.sv.ownBlock = some k) w w'
set_option maxRecDepth 100000 in
set_option maxHeartbeats 4000000 in
theorem add_any (r : Run) (q : Pl) (i : Nat) (o : MOp) (t : Int) (w : World) (h : AAt w r q i) (hl : r.ops.length ≤ 16) (ht : r.times.length = r.ops.length) :
    Calls Try.prog 34 #[.pointer (some ⟨q.b, 0, none⟩), .agg #[.int .i64 o.kind, .string o.key, .bool o.found, .string o.value], .int .i64 t] w (AddPost w r q i o t) := by
  obtain ⟨okd, oky, ofd, ova⟩ := o
  obtain ⟨b, ov, sv⟩ := q
  have hba := (Below.refl w.heap.size w).alloc (Nat.le_refl _) (.cells #[.int .i64 okd, .string oky, .bool ofd, .string ova] 67)
  have rba := RowAt.new w 67 [.int .i64 okd, .string oky, .bool ofd, .string ova]
  obtain ⟨W0, hW0⟩ : ∃ WW : World, WW = w.alloc (.cells #[.int .i64 okd, .string oky, .bool ofd, .string ova] 67) := ⟨_, rfl⟩
  rw [show (Obj.cells (List.toArray [.int .i64 okd, .string oky, .bool ofd, .string ova]) 67) = .cells #[.int .i64 okd, .string oky, .bool ofd, .string ova] 67 from rfl, ← hW0] at rba
  rw [← hW0] at hba
  obtain ⟨A, c, rfl⟩ := own_forms h.ops
  obtain ⟨A2, c2, rfl⟩ := own_forms h.tms
  have m1 := h.below hba
  obtain ⟨n, hn⟩ : ∃ n, n = r.ops.length := ⟨_, rfl⟩
  rw [ht, ← hn] at m1
  rw [← hn] at hl
  have a7 := m1.row.cell 7
  simp only [actC, List.getElem?_cons_zero, List.getElem?_cons_succ] at a7
  have hflt := (Own.base h.ops)
  have hslt := (Own.base h.tms)
  rw [← hn] at hflt
  rw [ht, ← hn] at hslt
  have M1 := Lib.hid m1
  have HN := Lib.hid hn
  have HT := Lib.hid (ht.trans hn.symm)
  have RB := Lib.hid rba
  have HB := Lib.hid hba
  have HW0 := Lib.hid hW0
  have HFL := Lib.hid hflt
  have HSLT := Lib.hid hslt
  have M1b := Lib.hid (RowAt.drew M1.out.row)
  have M1c := Lib.hid (M1b.out.alloc (.cells #[.int .i64 okd, .string oky, .bool ofd, .string ova] 67))
  have HOA := Lib.hid ((Own.drawn M1.out.ops).alloc (.cells #[.int .i64 okd, .string oky, .bool ofd, .string ova] 67))
  have RBA := Lib.hid (RowAt.new W0.drew 67 (MOp.cells ⟨okd, oky, ofd, ova⟩))
  have NB := Lib.hid (show (Value.slice A n c).ownBlock ≠ some b from own_far HOA.out M1c.out (by decide))
  have HSL := Lib.hid (show n + 1 ≤ maxLen ∧ (n + 1) * 48 ≤ 140737488355328 by unfold maxLen; omega)
  have HTA := Lib.hid ((((Turn.of_below hba (fun _ => False))).drew).alloc (.cells #[.int .i64 okd, .string oky, .bool ofd, .string ova] 67))
  have hal : ∀ x, (W0.alloc x).cell? ⟨b, 7, none⟩ = some (.slice A n c) := fun x => (M1.out.row.alloc x).cell 7
  have d0 := rba.cell 0
  have d1 := rba.cell 1
  have d2 := rba.cell 2
  have d3 := rba.cell 3
  simp only [List.getElem?_cons_zero, List.getElem?_cons_succ] at d0 d1 d2 d3
  clear h hba rba m1 hn ht hW0 hflt hslt
  go_enter Try.func34, Try.ntmps34
  go_wp2_with fail
  rw [← HW0.out]
  go_region_law
    ((refine push_step MOp.cells 67 53 67 (.agg MOp.zero.cells.toArray) 4 48 Try.underlying53 (by kernel_rfl) rfl (by decide) MOp.len op_one _ _ (by rfl) (by rfl) 0 (.slice A n c) r.ops ⟨okd, oky, ofd, ova⟩ (by rfl) HOA.out W0.heap.size 1 (by rfl) RBA.out (by rw [← HN.out]; exact HSL.out.1) (by rw [← HN.out]; exact HSL.out.2) (Nat.zero_le _) (W0.heap.size + 1) (by simp) ?_; intro g5 cap5 w3 o3 g3 l3 l4; have O3 := Lib.hid o3; have M1d := Lib.hid (grown_far g3 NB.out M1c.out); have T3 := Lib.hid ((Turn.refl (fun i => (Value.slice A n c).ownBlock = some i) _).grown g3 fun i hi => .inl hi); have L3 := Lib.hid l3; have L4 := Lib.hid l4; have qf := M1d.out.frozen 7; have qc := M1d.out.cell 7; simp only [actC, List.getElem?_cons_zero, List.getElem?_cons_succ] at qc; clear o3 g3 l3 l4))
  all_goals
    have hb0 := HB.out.size
    have ti : Turn (fun k => k = b ∨ (Value.slice A n c).ownBlock = some k) (W0.drew.alloc (.cells #[.int .i64 okd, .string oky, .bool ofd, .string ova] 67)) (w3.setCell ⟨b, 7, none⟩ (.slice (some ⟨g5, 0, none⟩) (r.ops.length + 1) cap5)) :=
      (T3.out.mono (S' := fun k => k = b ∨ (Value.slice A n c).ownBlock = some k) fun _ _ e => .inr e).setCell (p := ⟨b, 7, none⟩) (.inl (.inl rfl)) _
    have tsv : IOwn (w3.setCell ⟨b, 7, none⟩ (.slice (some ⟨g5, 0, none⟩) (r.ops.length + 1) cap5)) (.slice A2 n c2) r.times :=
      Own.turn ((Own.drawn M1.out.tms).alloc (.cells #[.int .i64 okd, .string oky, .bool ofd, .string ova] 67)) ti fun g hg hh => by
        rcases hh with hh | hh
        · exact own_far M1.out.tms M1.out.row (by decide) (by rw [← hh]; exact hg)
        · exact own_two M1.out.tms M1.out.ops (by decide) g hg hh
    have row2 : RowAt (w3.setCell ⟨b, 7, none⟩ (.slice (some ⟨g5, 0, none⟩) (r.ops.length + 1) cap5)) b 80 (actC { r with ops := r.ops ++ [⟨okd, oky, ofd, ova⟩] } ⟨b, .slice (some ⟨g5, 0, none⟩) (r.ops.length + 1) cap5, .slice A2 n c2⟩ i) := (M1d.out.set 7 _).congr rfl
    have o5 : OOwn (w3.setCell ⟨b, 7, none⟩ (.slice (some ⟨g5, 0, none⟩) (r.ops.length + 1) cap5)) (.slice (some ⟨g5, 0, none⟩) (r.ops.length + 1) cap5) (r.ops ++ [⟨okd, oky, ofd, ova⟩]) :=
      Own.turn (S := fun k => k = b) O3.out (Turn.setCell (S := fun k => k = b) (p := ⟨b, 7, none⟩) (Turn.refl _ _) (.inl rfl) _) fun g hg e => own_far O3.out M1d.out (by decide) (by rw [← e]; exact hg)
    have T5 := Lib.hid (show Turn (fun k => k = b ∨ (Value.slice A n c).ownBlock = some k) w (w3.setCell ⟨b, 7, none⟩ (.slice (some ⟨g5, 0, none⟩) (r.ops.length + 1) cap5)) from (HTA.out.mono fun _ _ e => e.elim).trans ti)
    obtain ⟨W2, hW2⟩ : ∃ WW : World, WW = w3.setCell ⟨b, 7, none⟩ (.slice (some ⟨g5, 0, none⟩) (r.ops.length + 1) cap5) := ⟨_, rfl⟩
    rw [← hW2] at tsv row2 o5 T5 ⊢
    have TSV := Lib.hid tsv
    have ROW2 := Lib.hid row2
    have O5 := Lib.hid o5
    clear hW2 ti tsv row2 o5 qf qc hal d0 d1 d2 d3
    have c8 := ROW2.out.cell 8
    have f8 := ROW2.out.frozen 8
    simp only [actC, List.getElem?_cons_zero, List.getElem?_cons_succ] at c8
    have HOB := Lib.hid (TSV.out.alloc (.cells #[.int .i64 t] 3))
    have RBB := Lib.hid (RowAt.new W2 3 (intC t))
    have ROWA := Lib.hid (ROW2.out.alloc (.cells #[.int .i64 t] 3))
    have HSM := Lib.hid (show n + 1 ≤ maxLen ∧ (n + 1) * 8 ≤ 140737488355328 by unfold maxLen; omega)
    have a8 : ∀ x, (W2.alloc x).cell? ⟨b, 8, none⟩ = some (.slice A2 n c2) := fun x => by
      have := (ROW2.out.alloc x).cell 8
      simpa [actC] using this
    go_wp2_with (first | (refine push_list intC 3 65 3 (.int .i64 0) 1 8 Try.underlying65 (by kernel_rfl) rfl (by decide) (fun _ => rfl) int_one _ _ (by rfl) (by rfl) 0 (.slice A2 n c2) r.times t (by rfl) HOB.out W2.heap.size 1 (by rfl) RBB.out (by rw [HT.out]; exact HSM.out.1) (by rw [HT.out]; exact HSM.out.2) (Nat.zero_le _) (W2.heap.size + 1) (by simp) ?_; intro g6 cap6 w6 o6 g6' l6 l7; have O6 := Lib.hid o6; have ROW6 := Lib.hid (grown_far g6' (own_far HOB.out ROWA.out (by decide)) ROWA.out); have T6 := Lib.hid ((Turn.refl (fun i => (Value.slice A2 n c2).ownBlock = some i) _).grown g6' fun i hi => .inl hi); have L6 := Lib.hid l6; have qf := ROW6.out.frozen 8; have qc := ROW6.out.cell 8; simp only [actC, List.getElem?_cons_zero, List.getElem?_cons_succ] at qc; clear o6 g6' l6 l7))
    have t7 : Turn (fun k => k = b ∨ (Value.slice A n c).ownBlock = some k ∨ (Value.slice A2 n c2).ownBlock = some k) w (w6.setCell ⟨b, 8, none⟩ (.slice (some ⟨g6, 0, none⟩) (r.times.length + 1) cap6)) :=
      (((T5.out.mono (S' := fun k => k = b ∨ (Value.slice A n c).ownBlock = some k ∨ (Value.slice A2 n c2).ownBlock = some k) fun _ _ e => e.elim .inl fun e => .inr (.inl e)).alloc (.cells #[.int .i64 t] 3)).trans (T6.out.mono fun _ _ e => .inr (.inr e))).setCell (p := ⟨b, 8, none⟩) (.inl (.inl rfl)) _
    have T7 := Lib.hid t7
    have row7 : RowAt (w6.setCell ⟨b, 8, none⟩ (.slice (some ⟨g6, 0, none⟩) (r.times.length + 1) cap6)) b 80 (actC { r with ops := r.ops ++ [⟨okd, oky, ofd, ova⟩], times := r.times ++ [t] } ⟨b, .slice (some ⟨g5, 0, none⟩) (r.ops.length + 1) cap5, .slice (some ⟨g6, 0, none⟩) (r.times.length + 1) cap6⟩ i) := (ROW6.out.set 8 _).congr rfl
    have o7 : OOwn (w6.setCell ⟨b, 8, none⟩ (.slice (some ⟨g6, 0, none⟩) (r.times.length + 1) cap6)) (.slice (some ⟨g5, 0, none⟩) (r.ops.length + 1) cap5) (r.ops ++ [⟨okd, oky, ofd, ova⟩]) :=
      Own.turn (S := fun k => k = b ∨ (Value.slice A2 n c2).ownBlock = some k) (O5.out.alloc (.cells #[.int .i64 t] 3)) ((T6.out.mono (S' := fun k => k = b ∨ (Value.slice A2 n c2).ownBlock = some k) fun _ _ e => .inr e).setCell (p := ⟨b, 8, none⟩) (.inl (.inl rfl)) _) fun g hg e => by
        rcases e with e | e
        · exact own_far O5.out ROW2.out (by decide) (by rw [← e]; exact hg)
        · exact own_two O5.out TSV.out (by decide) g hg e
    have s7 : IOwn (w6.setCell ⟨b, 8, none⟩ (.slice (some ⟨g6, 0, none⟩) (r.times.length + 1) cap6)) (.slice (some ⟨g6, 0, none⟩) (r.times.length + 1) cap6) (r.times ++ [t]) :=
      Own.turn (S := fun k => k = b) O6.out (Turn.setCell (S := fun k => k = b) (p := ⟨b, 8, none⟩) (Turn.refl _ _) (.inl rfl) _) fun g hg e => own_far O6.out ROW6.out (by decide) (by rw [← e]; exact hg)
    have hz5 := T5.out.size
    refine bodyPost_end (results_none rfl _ _ _) rfl ?_
    refine ⟨rfl, ⟨b, .slice (some ⟨g5, 0, none⟩) (r.ops.length + 1) cap5, .slice (some ⟨g6, 0, none⟩) (r.times.length + 1) cap6⟩, rfl, ⟨row7, o7, s7⟩, fun g hg => ?_, fun g hg => ?_, ?_⟩
    · have e : g5 = g := by simpa [Value.ownBlock] using hg
      subst e
      rw [← HN.out]
      exact L3.out.imp id fun e => by omega
    · have e : g6 = g := by simpa [Value.ownBlock] using hg
      subst e
      rw [HT.out]
      exact L6.out.imp id fun e => by omega
    · refine T7.out.mono fun k _ e => ?_
      rw [← HN.out, HT.out]
      exact e

end Go.Proofs.Ytfodagidmdbmlaa
