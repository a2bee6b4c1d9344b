/- The tree of stops in memory. -/
import Derived.Test.YtcfdpeafnpeddaaH
import Derived.Test.YtcfdpeafnpeddaaOnce
namespace Go.Proofs.Ytcfdpeafnpeddaa
set_option linter.unusedVariables false
set_option linter.unusedSimpArgs false
open Go.Conc Go.RowKit

structure Pl where
  T : Nat
  B : Nat → Nat
  C : Nat → Nat
  K : Nat → Value
def Pl.own (x : Pl) (n b : Nat) : Prop := b = x.T ∨ ∃ i, i < n ∧ (b = x.B i ∨ b = x.C i ∨ (x.K i).ownBlock = some b)
def ptrC (b : Nat) : List Value := [.pointer (some ⟨b, 0, none⟩)]
def kidsOf (st : List St) (i : Nat) : List Nat := (List.range st.length).filter fun j => (ns st j).par == (i : Int)
theorem kidsOf_mem (st : List St) (i j : Nat) : j ∈ kidsOf st i ↔ j < st.length ∧ (ns st j).par = (i : Int) := by
  unfold kidsOf
  simp
def Pl.par (x : Pl) (p : Int) : Value := if p < 0 then .pointer none else .pointer (some ⟨x.B p.toNat, 0, none⟩)
def done (c : Int) : Int := if c = 0 then 0 else 1
abbrev Pl.node (x : Pl) (i : Nat) (s : St) : List Value := stopC (.pointer (some ⟨x.T, 0, none⟩)) (x.par s.par) (x.K i) s.left s.cause (done s.cause) 0 0 (x.C i)
def chanO (c : Int) : Obj := .chan 0 #[] (decide (c ≠ 0)) 0 0 false
structure HT (w : World) (x : Pl) (l : Int) (st : List St) : Prop where
  tree : RowAt w x.T 59 [.int .i32 l, .int .u32 0, .int .i64 st.length]
  node : ∀ i, i < st.length → RowAt w (x.B i) 67 (x.node i (ns st i))
  chan : ∀ i, i < st.length → w.heap[x.C i]? = some (chanO (ns st i).cause)
  kids : ∀ i, i < st.length → Own w 0 23 1 ptrC (x.K i) ((kidsOf st i).map x.B)
  bInj : ∀ i j, i < st.length → j < st.length → x.B i = x.B j → i = j
  cInj : ∀ i j, i < st.length → j < st.length → x.C i = x.C j → i = j
  kInj : ∀ i j, i < st.length → j < st.length → i ≠ j → ∀ g, (x.K i).ownBlock = some g → (x.K j).ownBlock ≠ some g
theorem chan_row {w : World} {c g : Nat} {cu : Int} {T : TypeId} {cs : List Value} (h : w.heap[c]? = some (chanO cu)) (h' : RowAt w g T cs) : c ≠ g := by
  rintro rfl
  unfold RowAt at h'
  rw [h] at h'
  simp [chanO] at h'
theorem own_row {w : World} {base g : Nat} {T : TypeId} {v : Value} {xs : List Nat} {cs : List Value} (h : Own w base 23 1 ptrC v xs) (hg : v.ownBlock = some g) (h' : RowAt w g T cs) : T = 23 := by
  rcases h.cases with ⟨rfl, _⟩ | ⟨g', cap, rest, rfl, _, _, _, hr⟩
  · simp [Value.ownBlock] at hg
  · simp [Value.ownBlock] at hg
    subst hg
    by_cases e : T = 23
    · exact e
    · exact absurd rfl (h'.ne hr e)
theorem own_chan {w : World} {base g : Nat} {v : Value} {xs : List Nat} {cu : Int} (h : Own w base 23 1 ptrC v xs) (hg : v.ownBlock = some g) (h' : w.heap[g]? = some (chanO cu)) : False := by
  rcases h.cases with ⟨rfl, _⟩ | ⟨g', cap, rest, rfl, _, _, _, hr⟩
  · simp [Value.ownBlock] at hg
  · simp [Value.ownBlock] at hg
    subst hg
    exact chan_row h' hr rfl
theorem HT.turn {w w' : World} {x : Pl} {l : Int} {st : List St} (h : HT w x l st) {S : Nat → Prop} (ht : Turn S w w') (hS : ∀ b, x.own st.length b → ¬ S b) : HT w' x l st := by
  refine ⟨h.tree.turn ht (hS _ (.inl rfl)), fun i hi => (h.node i hi).turn ht (hS _ (.inr ⟨i, hi, .inl rfl⟩)), fun i hi => ?_, fun i hi => (h.kids i hi).turn ht fun k hk => hS _ (.inr ⟨i, hi, .inr (.inr hk)⟩), h.bInj, h.cInj, h.kInj⟩
  rw [ht.block _ (Array.getElem?_eq_some_iff.1 (h.chan i hi)).1 (hS _ (.inr ⟨i, hi, .inr (.inl rfl)⟩))]
  exact h.chan i hi
theorem HT.below {w w' : World} {x : Pl} {l : Int} {st : List St} (h : HT w x l st) (hb : Below w.heap.size w w') : HT w' x l st := h.turn (Turn.of_below hb fun _ => False) fun _ _ => id
theorem HT.lt {w : World} {x : Pl} {l : Int} {st : List St} (h : HT w x l st) (b : Nat) (hb : x.own st.length b) : b < w.heap.size := by
  rcases hb with rfl | ⟨i, hi, rfl | rfl | hk⟩
  · exact h.tree.lt
  · exact (h.node i hi).lt
  · exact (Array.getElem?_eq_some_iff.1 (h.chan i hi)).1
  · exact ((h.kids i hi).base b hk).2
/-- The lock's word turns. -/
theorem HT.lock {w : World} {x : Pl} {l : Int} {st : List St} (h : HT w x l st) (l' : Int) : HT (w.setCell ⟨x.T, 0, none⟩ (.int .i32 l')) x l' st := by
  have ht : Turn (fun b => b = x.T) w (w.setCell ⟨x.T, 0, none⟩ (.int .i32 l')) := Turn.setCell (S := fun b => b = x.T) (p := ⟨x.T, 0, none⟩) (Turn.refl _ w) (.inl rfl) _
  refine ⟨h.tree.set 0 (.int .i32 l'), fun i hi => (h.node i hi).turn ht ((h.node i hi).ne h.tree (by decide)), fun i hi => ?_, fun i hi => (h.kids i hi).turn ht fun k hk e => ?_, h.bInj, h.cInj, h.kInj⟩
  · rw [ht.block _ (Array.getElem?_eq_some_iff.1 (h.chan i hi)).1 (chan_row (h.chan i hi) h.tree)]
    exact h.chan i hi
  · have := own_row (h.kids i hi) hk (by rw [e]; exact h.tree)
    exact absurd this (by decide)
/-- Stop i turns, its parent and its kids stay. -/
theorem HT.upd {w w' : World} {x : Pl} {l : Int} {st : List St} (h : HT w x l st) {i : Nat} (hi : i < st.length) (s : St) (hp : s.par = (ns st i).par)
    (ht : Turn (fun b => b = x.B i ∨ b = x.C i) w w') (h1 : RowAt w' (x.B i) 67 (x.node i s)) (h2 : w'.heap[x.C i]? = some (chanO s.cause)) : HT w' x l (st.set i s) := by
  have hk : ∀ j, kidsOf (st.set i s) j = kidsOf st j := by
    intro j
    unfold kidsOf
    rw [List.length_set]
    congr 1
    funext k
    rw [ns_set _ _ _ _ hi]
    split
    · rename_i e; rw [hp, e]
    · rfl
  refine ⟨?_, fun j hj => ?_, fun j hj => ?_, fun j hj => ?_, ?_, ?_, ?_⟩
  · rw [List.length_set]
    exact h.tree.turn ht (by rintro (e | e); exact (h.node i hi).ne h.tree (by decide) e.symm; exact chan_row (h.chan i hi) h.tree e.symm)
  · rw [List.length_set] at hj
    rw [ns_set _ _ _ _ hi]
    by_cases e : j = i
    · subst e; rw [if_pos rfl]; exact h1
    · rw [if_neg e]
      exact (h.node j hj).turn ht (by rintro (e' | e'); exact e (h.bInj _ _ hj hi e'); exact chan_row (h.chan i hi) (h.node j hj) e'.symm)
  · rw [List.length_set] at hj
    rw [ns_set _ _ _ _ hi]
    by_cases e : j = i
    · subst e; rw [if_pos rfl]; exact h2
    · rw [if_neg e, ht.block _ (Array.getElem?_eq_some_iff.1 (h.chan j hj)).1 (by rintro (e' | e'); exact chan_row (h.chan j hj) (h.node i hi) e'; exact e (h.cInj _ _ hj hi e'))]
      exact h.chan j hj
  · rw [List.length_set] at hj
    rw [hk]
    refine (h.kids j hj).turn ht fun k hkb => ?_
    rintro (e | e)
    · exact absurd (own_row (h.kids j hj) hkb (by rw [e]; exact h.node i hi)) (by decide)
    · exact own_chan (h.kids j hj) hkb (by rw [e]; exact h.chan i hi)
  · intro a b ha hb; rw [List.length_set] at ha hb; exact h.bInj a b ha hb
  · intro a b ha hb; rw [List.length_set] at ha hb; exact h.cInj a b ha hb
  · intro a b ha hb; rw [List.length_set] at ha hb; exact h.kInj a b ha hb
theorem turn_own {w w' : World} {x : Pl} {n i : Nat} (hi : i < n) (h : Turn (fun b => b = x.B i ∨ b = x.C i) w w') : Turn (x.own n) w w' := h.mono fun b _ hb => .inr ⟨i, hi, by rcases hb with e | e; exact .inl e; exact .inr (.inl e)⟩
theorem turn_lock {w : World} {x : Pl} {n : Nat} (v : Value) : Turn (x.own n) w (w.setCell ⟨x.T, 0, none⟩ v) := Turn.setCell (p := ⟨x.T, 0, none⟩) (Turn.refl _ w) (.inl (.inl rfl)) _
/-- The kids' slice, read. -/
theorem ptr_cells (xs : List Nat) : xs.flatMap ptrC = xs.map fun b => Value.pointer (some ⟨b, 0, none⟩) := by
  induction xs with
  | nil => rfl
  | cons x xs ih => rw [List.flatMap_cons, ih]; rfl
theorem kids_view {w : World} {base : Nat} {v : Value} {L : List Nat} (h : Own w base 23 1 ptrC v L) :
    ∃ A cap, v = .slice A L.length cap ∧ ∀ i y, L[i]? = some y → ∃ g, A = some ⟨g, 0, none⟩ ∧ w.cell? ⟨g, i, none⟩ = some (.pointer (some ⟨y, 0, none⟩)) := by
  rcases h.cases with ⟨rfl, rfl⟩ | ⟨g, cap, rest, rfl, hb, -, -, hr⟩
  · exact ⟨_, _, rfl, fun i x hx => by simp at hx⟩
  · refine ⟨_, _, rfl, fun i x hx => ⟨g, rfl, ?_⟩⟩
    have hi : i < L.length := (List.getElem?_eq_some_iff.1 hx).1
    rw [hr.cell, List.getElem?_append_left (by rw [ptr_cells]; simpa using hi), ptr_cells, List.getElem?_map, hx]
    rfl
theorem HT.live {w : World} {x : Pl} {l : Int} {st : List St} (h : HT w x l st) {i : Nat} (hi : i < st.length) :
    Calls Try.prog 25 #[.pointer (some ⟨x.B i, 0, none⟩)] w fun e w' => e = .returned (.bool (decide ((ns st i).cause = 0))) ∧ w' = w := by
  have h8 := (h.node i hi).cell 8
  have hc := h.chan i hi
  unfold chanO at hc
  by_cases e : (ns st i).cause = 0
  · rw [decide_eq_true e]
    rw [decide_eq_false (by simpa using e)] at hc
    exact live_yes _ _ w h8 hc
  · rw [decide_eq_false e]
    rw [decide_eq_true (by simpa using e)] at hc
    exact live_no _ _ w h8 hc
end Go.Proofs.Ytcfdpeafnpeddaa
