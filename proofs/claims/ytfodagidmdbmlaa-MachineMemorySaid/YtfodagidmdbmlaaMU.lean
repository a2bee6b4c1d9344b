/- The machine in memory, when a part of it changes. -/
import Derived.Test.YtfodagidmdbmlaaM9
namespace Go.Proofs.Ytfodagidmdbmlaa
set_option linter.unusedVariables false
set_option linter.unusedSimpArgs false
open Go.RowKit

section
variable {w w' : World} {m : Nat} {M : Mach} {gs p : Nat} {lv : Value} {pl : List Pl} {Fs : Nat → Prop} {N : Nat}
theorem MachAt.at (h : MachAt w m M gs p lv pl Fs N) {k : Nat} {q : Pl} (hq : pl[k]? = some q) : ∃ r, M.all[k]? = some r ∧ AAt w r q k := by
  have hlt : k < M.all.length := by rw [← h.len]; exact (List.getElem?_eq_some_iff.1 hq).1
  exact ⟨_, List.getElem?_eq_getElem hlt, h.act k _ q (List.getElem?_eq_getElem hlt) hq⟩
theorem MachAt.act_far (h : MachAt w m M gs p lv pl Fs N) {g : Nat} {T : TypeId} {cs : List Value} (hr : RowAt w g T cs) (h1 : T ≠ 80) (h2 : T ≠ 67) (h3 : T ≠ 3) {k : Nat} {q : Pl} (hq : pl[k]? = some q) : q.b ≠ g ∧ q.ov.ownBlock ≠ some g ∧ q.sv.ownBlock ≠ some g := by
  obtain ⟨r, -, ha⟩ := h.at hq
  exact ⟨ha.row.ne hr (Ne.symm h1), own_far ha.ops hr (Ne.symm h2), own_far ha.tms hr (Ne.symm h3)⟩
/-- A session's cells are put anew. -/
theorem MachAt.setSess (h : MachAt w m M gs p lv pl Fs N) (s : Nat) (x : Option Nat × Int) (ht : Turn (fun i => i = gs) w w') (hs : RowAt w' gs 78 ((M.sess.set s x).flatMap (sessC pl))) : MachAt w' m { M with sess := M.sess.set s x } gs p lv pl Fs N := by
  refine ⟨?_, hs, h.sto.turn ht fun i hi e => (h.far i hi).2.1 e, h.len, fun i r q h1 h2 => ?_, h.dst, Own.turn h.log ht fun g hg e => own_far h.log h.ses (by decide) (by rw [← e]; exact hg), h.far⟩
  · have := h.row.turn ht (h.row.ne h.ses (by decide))
    unfold rowM at this ⊢
    simpa using this
  · have hf := h.act_far h.ses (by decide) (by decide) (by decide) h2
    exact (h.act i r q h1 h2).turn ht hf.1 (fun g hg e => hf.2.1 (by rw [← e]; exact hg)) (fun g hg e => hf.2.2 (by rw [← e]; exact hg))
/-- The machine's own cells are put anew: clock and log's head. -/
theorem MachAt.setRow (h : MachAt w m M gs p lv pl Fs N) (clk : Int) (ht : Turn (fun i => i = m) w w') (hr : RowAt w' m 73 (rowM { M with clock := clk } gs p lv)) : MachAt w' m { M with clock := clk } gs p lv pl Fs N := by
  refine ⟨hr, h.ses.turn ht fun e => h.ses.ne h.row (by decide) e, h.sto.turn ht fun i hi e => (h.far i hi).1 e, h.len, fun i r q h1 h2 => ?_, h.dst, Own.turn h.log ht fun g hg e => own_far h.log h.row (by decide) (by rw [← e]; exact hg), h.far⟩
  have hf := h.act_far h.row (by decide) (by decide) (by decide) h2
  exact (h.act i r q h1 h2).turn ht hf.1 (fun g hg e => hf.2.1 (by rw [← e]; exact hg)) (fun g hg e => hf.2.2 (by rw [← e]; exact hg))
/-- The store is put anew. -/
theorem MachAt.setStore (h : MachAt w m M gs p lv pl Fs N) {Fs' : Nat → Prop} {N' : Nat} (st : Store2) (ht : Turn Fs w w') (hs : SAt Fs' w' p st.1 N' st.2) (hF : ∀ i, Fs' i → Fs i ∨ w.heap.size ≤ i) : MachAt w' m { M with st := st } gs p lv pl Fs' N' := by
  refine ⟨h.row.turn ht (fun hh => (h.far _ hh).1 rfl), h.ses.turn ht (fun hh => (h.far _ hh).2.1 rfl), hs, h.len, fun i r q h1 h2 => ?_, h.dst, Own.turn h.log ht (fun g hg hh => (h.far g hh).2.2.1 hg), fun i hi => ?_⟩
  · exact (h.act i r q h1 h2).turn ht (fun hh => ((h.far _ hh).2.2.2 i q h2).1 rfl) (fun g hg hh => ((h.far _ hh).2.2.2 i q h2).2.1 hg) (fun g hg hh => ((h.far _ hh).2.2.2 i q h2).2.2 hg)
  · rcases hF i hi with hi | hi
    · exact h.far i hi
    · refine ⟨fun e => ?_, fun e => ?_, fun e => ?_, fun k q hq => ?_⟩
      · have := h.row.lt; omega
      · have := h.ses.lt; omega
      · have := (Own.base h.log i e).2; omega
      · obtain ⟨r, -, ha⟩ := h.at hq
        refine ⟨fun e => ?_, fun e => ?_, fun e => ?_⟩
        · have := ha.row.lt; omega
        · have := (Own.base ha.ops i e).2; omega
        · have := (Own.base ha.tms i e).2; omega
theorem plAt_set {pl : List Pl} {j : Nat} {q' : Pl} (i : Nat) (hj : j < pl.length) : plAt (pl.set j q') i = if i = j then q' else plAt pl i := by
  unfold plAt
  rw [List.getD_eq_getElem?_getD, List.getElem?_set]
  by_cases e : i = j
  · rw [if_pos e.symm, if_pos e, if_pos hj]; rfl
  · rw [if_neg (Ne.symm e), if_neg e, List.getD_eq_getElem?_getD]
theorem getD_set {l : List Run} {j : Nat} {r' : Run} (i : Nat) (h : i ≠ j) : (l.set j r').getD i Run.zero = l.getD i Run.zero := by
  rw [List.getD_eq_getElem?_getD, List.getElem?_set, if_neg (Ne.symm h), List.getD_eq_getElem?_getD]
/-- A transaction under way is put anew. -/
theorem MachAt.setAct (h : MachAt w m M gs p lv pl Fs N) {j : Nat} {q q' : Pl} (hq : pl[j]? = some q) (r' : Run) (hb : q'.b = q.b) (ht : Turn (fun k => k = q.b ∨ q.ov.ownBlock = some k ∨ q.sv.ownBlock = some k) w w') (ha : AAt w' r' q' j)
    (ho : ∀ g, q'.ov.ownBlock = some g → q.ov.ownBlock = some g ∨ w.heap.size ≤ g) (hv : ∀ g, q'.sv.ownBlock = some g → q.sv.ownBlock = some g ∨ w.heap.size ≤ g) (hj : j ∉ M.ends) :
    MachAt w' m { M with all := M.all.set j r' } gs p lv (pl.set j q') Fs N := by
  obtain ⟨r, hr, ha0⟩ := h.at hq
  have hjl : j < pl.length := (List.getElem?_eq_some_iff.1 hq).1
  have fm := h.act_far h.row (by decide) (by decide) (by decide) hq
  have fg := h.act_far h.ses (by decide) (by decide) (by decide) hq
  have hlt : ∀ (k : Nat) (qk : Pl), pl[k]? = some qk → qk.b < w.heap.size ∧ (∀ g, qk.ov.ownBlock = some g → g < w.heap.size) ∧ ∀ g, qk.sv.ownBlock = some g → g < w.heap.size := fun k qk hk => by
    obtain ⟨rk, -, hak⟩ := h.at hk
    exact ⟨hak.row.lt, fun g hg => (Own.base hak.ops g hg).2, fun g hg => (Own.base hak.tms g hg).2⟩
  refine ⟨?_, ?_, h.sto.turn ht fun i hi hh => ?_, by simpa using h.len, fun i ri qi h1 h2 => ?_, fun i k qi qk hik h1 h2 => ?_, ?_, fun i hi => ?_⟩
  · have := h.row.turn ht fun hh => by
      rcases hh with hh | hh | hh
      · exact fm.1 hh.symm
      · exact fm.2.1 hh
      · exact fm.2.2 hh
    unfold rowM at this ⊢
    simpa using this
  · have := h.ses.turn ht fun hh => by
      rcases hh with hh | hh | hh
      · exact fg.1 hh.symm
      · exact fg.2.1 hh
      · exact fg.2.2 hh
    have e : sessC (pl.set j q') = sessC pl := by
      funext x
      unfold sessC
      have e2 : (fun i => (⟨(plAt (pl.set j q') i).b, 0, none⟩ : Addr)) = fun i => ⟨(plAt pl i).b, 0, none⟩ := by
        funext i
        rw [plAt_set i hjl]
        by_cases e : i = j
        · rw [if_pos e, e, plAt_get hq, hb]
        · rw [if_neg e]
      rw [e2]
    show RowAt w' gs 78 (M.sess.flatMap (sessC (pl.set j q')))
    rw [e]
    exact this
  · have hf := (h.far i hi).2.2.2 j q hq
    rcases hh with hh | hh | hh
    · exact hf.1 hh
    · exact hf.2.1 hh
    · exact hf.2.2 hh
  · rw [List.getElem?_set] at h1 h2
    by_cases e : j = i
    · rw [if_pos e, if_pos hjl] at h2
      rw [if_pos e, if_pos (by rw [← h.len]; exact hjl)] at h1
      cases h1
      cases h2
      rw [← e]
      exact ha
    · rw [if_neg e] at h1 h2
      have d := h.dst i j qi q (Ne.symm e) h2 hq
      have d' := h.act i ri qi h1 h2
      refine d'.turn ht (fun hh => ?_) (fun g hg hh => ?_) (fun g hg hh => ?_)
      · rcases hh with hh | hh | hh
        · exact d.1 hh
        · exact own_far ha0.ops d'.row (by decide) hh
        · exact own_far ha0.tms d'.row (by decide) hh
      · rcases hh with hh | hh | hh
        · exact own_far d'.ops ha0.row (by decide) (by rw [← hh]; exact hg)
        · exact d.2.1 g hg hh
        · exact own_two d'.ops ha0.tms (by decide) g hg hh
      · rcases hh with hh | hh | hh
        · exact own_far d'.tms ha0.row (by decide) (by rw [← hh]; exact hg)
        · exact own_two d'.tms ha0.ops (by decide) g hg hh
        · exact d.2.2 g hg hh
  · rw [List.getElem?_set] at h1 h2
    by_cases e1 : j = i
    · rw [if_pos e1, if_pos hjl] at h1
      rw [if_neg (fun e => hik (e1.symm.trans e))] at h2
      cases h1
      have d := h.dst j k q qk (fun e => hik (e1.symm.trans e)) hq h2
      have hk := hlt k qk h2
      refine ⟨by rw [hb]; exact d.1, fun g hg hh => ?_, fun g hg hh => ?_⟩
      · rcases ho g hg with h0 | h0
        · exact d.2.1 g h0 hh
        · have := hk.2.1 g hh; omega
      · rcases hv g hg with h0 | h0
        · exact d.2.2 g h0 hh
        · have := hk.2.2 g hh; omega
    · rw [if_neg e1] at h1
      by_cases e2 : j = k
      · rw [if_pos e2, if_pos hjl] at h2
        cases h2
        have d := h.dst i j qi q (Ne.symm e1) h1 hq
        have hk := hlt i qi h1
        refine ⟨by rw [hb]; exact d.1, fun g hg hh => ?_, fun g hg hh => ?_⟩
        · rcases ho g hh with h0 | h0
          · exact d.2.1 g hg h0
          · have := hk.2.1 g hg; omega
        · rcases hv g hh with h0 | h0
          · exact d.2.2 g hg h0
          · have := hk.2.2 g hg; omega
      · rw [if_neg e2] at h2
        exact h.dst i k qi qk hik h1 h2
  · have e : logOf { M with all := M.all.set j r' } (pl.set j q') = logOf M pl := by
      unfold logOf
      refine List.map_congr_left fun i hi => ?_
      have hne : i ≠ j := fun e => hj (e ▸ hi)
      show ((M.all.set j r').getD i Run.zero, (plAt (pl.set j q') i).ov) = _
      rw [getD_set i hne, plAt_set i hjl, if_neg hne]
    rw [e]
    exact Own.turn h.log ht fun g hg hh => by
      rcases hh with hh | hh | hh
      · exact own_far h.log ha0.row (by decide) (by rw [← hh]; exact hg)
      · exact own_two h.log ha0.ops (by decide) g hg hh
      · exact own_two h.log ha0.tms (by decide) g hg hh
  · obtain ⟨f1, f2, f3, f4⟩ := h.far i hi
    refine ⟨f1, f2, f3, fun k qk hk => ?_⟩
    rw [List.getElem?_set] at hk
    by_cases e : j = k
    · rw [if_pos e, if_pos hjl] at hk
      cases hk
      have hf := f4 j q hq
      have hil : i < w.heap.size := h.mf_lt i (.inr (.inr (.inr (.inl hi))))
      refine ⟨by rw [hb]; exact hf.1, fun hh => ?_, fun hh => ?_⟩
      · rcases ho i hh with h0 | h0
        · exact hf.2.1 h0
        · omega
      · rcases hv i hh with h0 | h0
        · exact hf.2.2 h0
        · omega
    · rw [if_neg e] at hk
      exact f4 k qk hk
theorem MF.setAct {j : Nat} {q q' : Pl} {H : Nat} (hq : pl[j]? = some q) (hb : q'.b = q.b) (ho : ∀ g, q'.ov.ownBlock = some g → q.ov.ownBlock = some g ∨ H ≤ g) (hv : ∀ g, q'.sv.ownBlock = some g → q.sv.ownBlock = some g ∨ H ≤ g) (i : Nat) (hi : MF m gs lv (pl.set j q') Fs i) : MF m gs lv pl Fs i ∨ H ≤ i := by
  have hjl : j < pl.length := (List.getElem?_eq_some_iff.1 hq).1
  rcases hi with h | h | h | h | ⟨k, qk, hk, h⟩
  · exact .inl (.inl h)
  · exact .inl (.inr (.inl h))
  · exact .inl (.inr (.inr (.inl h)))
  · exact .inl (.inr (.inr (.inr (.inl h))))
  · rw [List.getElem?_set] at hk
    by_cases e : j = k
    · rw [if_pos e, if_pos hjl] at hk
      cases hk
      rcases h with h | h | h
      · exact .inl (.inr (.inr (.inr (.inr ⟨j, q, hq, .inl (h.trans hb)⟩))))
      · exact (ho i h).imp (fun h => .inr (.inr (.inr (.inr ⟨j, q, hq, .inr (.inl h)⟩)))) id
      · exact (hv i h).imp (fun h => .inr (.inr (.inr (.inr ⟨j, q, hq, .inr (.inr h)⟩)))) id
    · rw [if_neg e] at hk
      exact .inl (.inr (.inr (.inr (.inr ⟨k, qk, hk, h⟩))))
theorem set_self {j : Nat} {q : Pl} (hq : pl[j]? = some q) : pl.set j q = pl := by
  apply List.ext_getElem?
  intro i
  rw [List.getElem?_set]
  by_cases e : j = i
  · subst e
    rw [if_pos rfl, if_pos (List.getElem?_eq_some_iff.1 hq).1, hq]
  · rw [if_neg e]
end

end Go.Proofs.Ytfodagidmdbmlaa
