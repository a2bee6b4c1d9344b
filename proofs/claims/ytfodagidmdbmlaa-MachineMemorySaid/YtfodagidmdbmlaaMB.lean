/- The machine in memory, when a transaction begins. -/
import Derived.Test.YtfodagidmdbmlaaMD
namespace Go.Proofs.Ytfodagidmdbmlaa
set_option linter.unusedVariables false
set_option linter.unusedSimpArgs false
open Go.RowKit

def plNew (b : Nat) : Pl := ⟨b, .slice none 0 0, .slice none 0 0⟩
theorem plAt_old {pl : List Pl} {q : Pl} {i : Nat} (h : i < pl.length) : plAt (pl ++ [q]) i = plAt pl i := by
  unfold plAt
  rw [List.getD_eq_getElem?_getD, List.getElem?_append_left h, List.getD_eq_getElem?_getD]
theorem plAt_new {pl : List Pl} {q : Pl} : plAt (pl ++ [q]) pl.length = q := by
  unfold plAt
  rw [List.getD_eq_getElem?_getD, List.getElem?_append_right (Nat.le_refl _), Nat.sub_self]
  rfl
theorem sess_new {pl : List Pl} {q : Pl} {l : List (Option Nat × Int)} (h : ∀ (s j : Nat) (x : Int), l[s]? = some (some j, x) → j < pl.length) : l.flatMap (sessC (pl ++ [q])) = l.flatMap (sessC pl) := by
  have : ∀ x ∈ l, sessC (pl ++ [q]) x = sessC pl x := by
    rintro ⟨o, x⟩ hx
    obtain ⟨s, hs⟩ := List.getElem?_of_mem hx
    unfold sessC
    cases o with
    | none => rfl
    | some j =>
      have := h s j x hs
      simp only [Option.map_some]
      rw [plAt_old this]
  induction l with
  | nil => rfl
  | cons a l ih =>
    rw [List.flatMap_cons, List.flatMap_cons, this a (by simp), ih (fun s j x hs => h (s + 1) j x (by simpa using hs)) (fun x hx => this x (by simp [hx]))]
section
variable {w w' : World} {m : Nat} {M : Mach} {gs p : Nat} {lv : Value} {pl : List Pl} {Fs : Nat → Prop} {N : Nat}
theorem MachAt.begin (h : MachAt w m M gs p lv pl Fs N) (hi : MInv M) (he : ∀ i ∈ M.ends, i < M.all.length) (s : Nat) (hs : s < M.sess.length) (sq : Int) (r : Run) (b : Nat) (h1 : r.ops = []) (h2 : r.times = []) (hb : w.heap.size ≤ b) (ht : Turn (fun i => i = m ∨ i = gs) w w')
    (hrow : RowAt w' m 73 (rowM { M with all := M.all ++ [r] } gs p lv)) (hses : RowAt w' gs 78 (setRun (M.sess.flatMap (sessC pl)) (s * 2) [.pointer (some ⟨b, 0, none⟩), .int .i64 sq])) (hact : RowAt w' b 80 (actC r (plNew b) M.all.length)) :
    MachAt w' m { M with sess := M.sess.set s (some M.all.length, sq), all := M.all ++ [r] } gs p lv (pl ++ [plNew b]) Fs N := by
  have hlt : ∀ (k : Nat) (qk : Pl), pl[k]? = some qk → qk.b < w.heap.size ∧ (∀ g, qk.ov.ownBlock = some g → g < w.heap.size) ∧ ∀ g, qk.sv.ownBlock = some g → g < w.heap.size := fun k qk hk => by
    obtain ⟨rk, -, hak⟩ := h.at hk
    exact ⟨hak.row.lt, fun g hg => (Own.base hak.ops g hg).2, fun g hg => (Own.base hak.tms g hg).2⟩
  have get : ∀ (k : Nat) (qk : Pl), (pl ++ [plNew b])[k]? = some qk → (k < pl.length ∧ pl[k]? = some qk) ∨ (k = pl.length ∧ qk = plNew b) := fun k qk hk => by
    by_cases e : k < pl.length
    · rw [List.getElem?_append_left e] at hk
      exact .inl ⟨e, hk⟩
    · rw [List.getElem?_append_right (by omega)] at hk
      have : k - pl.length = 0 := by
        have := (List.getElem?_eq_some_iff.1 hk).1
        simp at this
        omega
      rw [this] at hk
      refine .inr ⟨by omega, ?_⟩
      injection hk with hk
      exact hk.symm
  refine ⟨?_, ?_, h.sto.turn ht fun i hi hh => ?_, by simp [h.len], fun i ri qi h3 h4 => ?_, fun i k qi qk hik h3 h4 => ?_, ?_, fun i hi => ?_⟩
  · unfold rowM at hrow ⊢
    simpa using hrow
  · show RowAt w' gs 78 ((M.sess.set s (some M.all.length, sq)).flatMap (sessC (pl ++ [plNew b])))
    rw [← flat_set (sessC_len _) M.sess s _ hs, sess_new fun t j x ht => by
      obtain ⟨rj, hj, -⟩ := hi.now t j x ht
      rw [h.len]
      exact (List.getElem?_eq_some_iff.1 hj).1]
    have e : sessC (pl ++ [plNew b]) (some M.all.length, sq) = [.pointer (some ⟨b, 0, none⟩), .int .i64 sq] := by
      unfold sessC
      simp only [Option.map_some]
      rw [← h.len, plAt_new]
      rfl
    rw [e]
    exact hses
  · rcases hh with hh | hh
    · exact (h.far i hi).1 hh
    · exact (h.far i hi).2.1 hh
  · rcases get i qi h4 with ⟨hil, h4⟩ | ⟨rfl, rfl⟩
    · have h3' : M.all[i]? = some ri := by rw [List.getElem?_append_left (by rw [← h.len]; exact hil)] at h3; exact h3
      have f1 := h.act_far h.row (by decide) (by decide) (by decide) h4
      have f2 := h.act_far h.ses (by decide) (by decide) (by decide) h4
      refine (h.act i ri qi h3' h4).turn ht (fun hh => ?_) (fun g hg hh => ?_) (fun g hg hh => ?_)
      · exact hh.elim f1.1 f2.1
      · exact hh.elim (fun e => f1.2.1 (by rw [← e]; exact hg)) fun e => f2.2.1 (by rw [← e]; exact hg)
      · exact hh.elim (fun e => f1.2.2 (by rw [← e]; exact hg)) fun e => f2.2.2 (by rw [← e]; exact hg)
    · rw [List.getElem?_append_right (by rw [h.len]; exact Nat.le_refl _), h.len, Nat.sub_self] at h3
      injection h3 with h3
      subst h3
      refine ⟨?_, ?_, ?_⟩
      · rw [h.len]; exact hact
      · rw [h1]; exact Own.nil _ _ _ _ _
      · rw [h2]; exact Own.nil _ _ _ _ _
  · rcases get i qi h3 with ⟨hil, h3⟩ | ⟨rfl, rfl⟩
    · rcases get k qk h4 with ⟨hkl, h4⟩ | ⟨rfl, rfl⟩
      · exact h.dst i k qi qk hik h3 h4
      · refine ⟨fun e => ?_, fun g hg e => ?_, fun g hg e => ?_⟩
        · have := (hlt i qi h3).1
          have e : qi.b = b := e
          omega
        · simp [plNew, Value.ownBlock] at e
        · simp [plNew, Value.ownBlock] at e
    · rcases get k qk h4 with ⟨hkl, h4⟩ | ⟨rfl, rfl⟩
      · refine ⟨fun e => ?_, fun g hg e => ?_, fun g hg e => ?_⟩
        · have := (hlt k qk h4).1
          have e : b = qk.b := e
          omega
        · simp [plNew, Value.ownBlock] at hg
        · simp [plNew, Value.ownBlock] at hg
      · exact absurd rfl hik
  · have e : logOf { M with sess := M.sess.set s (some M.all.length, sq), all := M.all ++ [r] } (pl ++ [plNew b]) = logOf M pl := by
      unfold logOf
      refine List.map_congr_left fun i hi => ?_
      have hil := he i hi
      show ((M.all ++ [r]).getD i Run.zero, (plAt (pl ++ [plNew b]) i).ov) = _
      rw [plAt_old (by rw [h.len]; exact hil), List.getD_eq_getElem?_getD, List.getElem?_append_left hil, List.getD_eq_getElem?_getD]
    rw [e]
    exact Own.turn h.log ht fun g hg hh => by
      rcases hh with hh | hh
      · exact own_far h.log h.row (by decide) (by rw [← hh]; exact hg)
      · exact own_far h.log h.ses (by decide) (by rw [← hh]; exact hg)
  · obtain ⟨f1, f2, f3, f4⟩ := h.far i hi
    refine ⟨f1, f2, f3, fun k qk hk => ?_⟩
    rcases get k qk hk with ⟨hkl, hk⟩ | ⟨rfl, rfl⟩
    · exact f4 k qk hk
    · have := h.mf_lt i (.inr (.inr (.inr (.inl hi))))
      refine ⟨fun e => ?_, by simp [plNew, Value.ownBlock], by simp [plNew, Value.ownBlock]⟩
      have e : i = b := e
      omega
theorem MF.begin {b H : Nat} (hb : H ≤ b) (i : Nat) (hi : MF m gs lv (pl ++ [plNew b]) Fs i) : MF m gs lv pl Fs i ∨ H ≤ i := by
  rcases hi with h | h | h | h | ⟨k, qk, hk, h⟩
  · exact .inl (.inl h)
  · exact .inl (.inr (.inl h))
  · exact .inl (.inr (.inr (.inl h)))
  · exact .inl (.inr (.inr (.inr (.inl h))))
  · by_cases e : k < pl.length
    · rw [List.getElem?_append_left e] at hk
      exact .inl (.inr (.inr (.inr (.inr ⟨k, qk, hk, h⟩))))
    · rw [List.getElem?_append_right (by omega)] at hk
      have : k - pl.length = 0 := by
        have := (List.getElem?_eq_some_iff.1 hk).1
        simp at this
        omega
      rw [this] at hk
      injection hk with hk
      subst hk
      rcases h with h | h | h
      · have h : i = b := h
        exact .inr (by omega)
      · simp [plNew, Value.ownBlock] at h
      · simp [plNew, Value.ownBlock] at h
end

end Go.Proofs.Ytfodagidmdbmlaa
