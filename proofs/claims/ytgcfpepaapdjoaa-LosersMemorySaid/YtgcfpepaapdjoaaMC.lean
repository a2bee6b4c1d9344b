/- The run of a merge by the tree: what is fed, what is left. No program in sight. -/
import Derived.Test.YtgcfpepaapdjoaaMB
import Derived.Test.YtgcfpepaapdjoaaY
namespace Go.Proofs.Ytgcfpepaapdjoaa
set_option linter.unusedVariables false
set_option linter.unusedSimpArgs false
open Go.RowKit

/-- One source: a of its list are taken; r is left. -/
def OneAt (s : Src) (a : Nat) (l r : List Nm) : Prop := a ≤ l.length ∧ (s.st = 0 ∧ r = l.drop a ∨ s.st = 1 ∧ (∃ y, r = y :: l.drop a ∧ s.row = y.row) ∨ s.st = 2 ∧ r = [])
structure Run (L : List (List Nm)) (xs : List Src) (ats : List Nat) (rems : List (List Nm)) : Prop where
  lx : xs.length = L.length
  la : ats.length = L.length
  lr : rems.length = L.length
  one : ∀ i, i < L.length → OneAt (at' xs i) (ats.getD i 0) (L.getD i []) (rems.getD i [])
theorem getD_set_if {α : Type} (l : List α) (i j : Nat) (x d : α) (hi : i < l.length) : (l.set i x).getD j d = if j = i then x else l.getD j d := by
  rw [List.getD_eq_getElem?_getD, List.getD_eq_getElem?_getD]
  by_cases e : j = i
  · subst e
    rw [if_pos rfl, List.getElem?_set_self hi]
    rfl
  · rw [if_neg e, List.getElem?_set_ne (Ne.symm e)]
theorem Run.start (L : List (List Nm)) : Run L (List.replicate L.length Src.zero) (List.replicate L.length 0) L := by
  refine ⟨by simp, by simp, rfl, fun i hi => ⟨?_, .inl ⟨by rw [at'_replicate]; rfl, ?_⟩⟩⟩
  · rw [List.getD_eq_getElem?_getD, List.getElem?_replicate, if_pos hi]; exact Nat.zero_le _
  · rw [List.getD_eq_getElem?_getD (l := List.replicate _ _), List.getElem?_replicate, if_pos hi]; rfl
theorem Run.feed {L : List (List Nm)} {xs : List Src} {ats : List Nat} {rems : List (List Nm)} (h : Run L xs ats rems) {i : Nat} (hi : i < L.length) (h0 : (at' xs i).st = 0) {y : Nm} (hy : (L.getD i [])[ats.getD i 0]? = some y) :
    Run L (xs.set i ⟨1, y.row⟩) (ats.set i (ats.getD i 0 + 1)) rems := by
  refine ⟨by simpa using h.lx, by simpa using h.la, h.lr, fun j hj => ?_⟩
  rw [at'_set _ _ _ _ (by rw [h.lx]; exact hi), getD_set_if _ _ _ _ _ (by rw [h.la]; exact hi)]
  by_cases e : j = i
  · subst e
    rw [if_pos rfl, if_pos rfl]
    obtain ⟨h1, h2⟩ := h.one j hj
    obtain ⟨hl, hy2⟩ := List.getElem?_eq_some_iff.1 hy
    refine ⟨by omega, .inr (.inl ⟨rfl, y, ?_, rfl⟩)⟩
    rcases h2 with ⟨_, h2⟩ | ⟨h3, _⟩ | ⟨h3, _⟩
    · rw [h2, List.drop_eq_getElem_cons hl, hy2]
    · rw [h0] at h3; cases h3
    · rw [h0] at h3; cases h3
  · rw [if_neg e, if_neg e]
    exact h.one j hj
theorem Run.fin {L : List (List Nm)} {xs : List Src} {ats : List Nat} {rems : List (List Nm)} (h : Run L xs ats rems) {i : Nat} (hi : i < L.length) (h0 : (at' xs i).st = 0) (ha : ats.getD i 0 = (L.getD i []).length) : Run L (xs.set i Src.fin) ats rems := by
  refine ⟨by simpa using h.lx, h.la, h.lr, fun j hj => ?_⟩
  rw [at'_set _ _ _ _ (by rw [h.lx]; exact hi)]
  by_cases e : j = i
  · subst e
    rw [if_pos rfl]
    obtain ⟨h1, h2⟩ := h.one j hj
    refine ⟨h1, .inr (.inr ⟨rfl, ?_⟩)⟩
    rcases h2 with ⟨_, h2⟩ | ⟨h3, _⟩ | ⟨h3, _⟩
    · rw [h2, ha, List.drop_eq_nil_of_le (Nat.le_refl _)]
    · rw [h0] at h3; cases h3
    · rw [h0] at h3; cases h3
  · rw [if_neg e]
    exact h.one j hj
/-- The head of the sources that wait. -/
theorem waits_head {xs : List Src} {i : Nat} {rest : List Nat} (h : waitsTo xs xs.length = i :: rest) : i < xs.length ∧ (at' xs i).st = 0 ∧ ∀ s : Src, s.st ≠ 0 → waitsTo (xs.set i s) (xs.set i s).length = rest := by
  have hm : i ∈ waitsTo xs xs.length := by rw [h]; exact List.mem_cons_self ..
  unfold waitsTo at hm
  rw [List.mem_filter, List.mem_range] at hm
  have hi := hm.1
  refine ⟨hi, by simpa using hm.2, fun s hs => ?_⟩
  have hnd : (waitsTo xs xs.length).Nodup := List.Pairwise.filter _ List.nodup_range
  rw [h, List.nodup_cons] at hnd
  have e1 : waitsTo (xs.set i s) (xs.set i s).length = (waitsTo xs xs.length).filter fun j => j != i := by
    unfold waitsTo
    rw [List.filter_filter, List.length_set]
    refine List.filter_congr fun j hj => ?_
    rw [at'_set _ _ _ _ hi]
    by_cases e : j = i
    · subst e
      simp [hs]
    · simp [e]
  rw [e1, h, List.filter_cons_of_neg (by simp)]
  refine List.filter_eq_self.2 fun j hj => ?_
  have : j ≠ i := fun e => hnd.1 (e ▸ hj)
  simpa using this
theorem waits_none {xs : List Src} (h : waitsTo xs xs.length = []) (hst : ∀ i, i < xs.length → (at' xs i).st = 0 ∨ Full (at' xs i)) : AllFull xs := by
  intro i hi
  refine (hst i hi).resolve_left fun h0 => ?_
  have : i ∈ waitsTo xs xs.length := by
    unfold waitsTo
    rw [List.mem_filter, List.mem_range]
    exact ⟨hi, by simp [h0]⟩
  rw [h] at this
  cases this
/-- Who wins. -/
theorem win_cases {o : Int} (ho : o = 1 ∨ o = 2) {xs : List Src} (hp : 1 ≤ xs.length) (hf : AllFull xs) :
    (winA o xs = ((0, Row.zero, 114), xs) ∧ ∀ i, i < xs.length → (at' xs i).st = 2) ∨
    ∃ b, b < xs.length ∧ (at' xs b).st = 1 ∧ winA o xs = ((((b : Nat) : Int), (at' xs b).row, (0 : Int)), xs.set b Src.zero) ∧ ∀ j, j < xs.length → j ≠ b → bt o xs b j = true := by
  have wl : W o xs 1 < xs.length := W_lt (by omega) (by omega)
  have hw : ¬ anyWait xs = true := by
    intro h
    obtain ⟨i, hi, h0⟩ := anyWait_true h
    have := hf i hi
    unfold Full at this
    omega
  have hm : ∀ j, j < xs.length → j ≠ W o xs 1 → bt o xs (W o xs 1) j = true := fun j hj hne => (W_one ho hf hp j hj).resolve_left hne
  rcases hf _ wl with h1 | h2
  · exact .inr ⟨_, wl, h1, winA_of o ho xs hf _ wl h1 hm, hm⟩
  · refine .inl ⟨by unfold winA; rw [if_neg hw, if_pos h2], fun i hi => ?_⟩
    by_cases e : i = W o xs 1
    · rw [e]; exact h2
    · have := hm i hi e
      unfold bt beatsS at this
      rcases hf i hi with h1 | h1
      · rw [if_neg (by omega)] at this
        simp at this
        omega
      · exact h1
theorem min_of {o : Int} (ho : o = 1 ∨ o = 2) {x y : Nm} {s t : Src} {a b : Nat} (hs : s.st = 1) (ht : t.st = 1) (hx : s.row = x.row) (hy : t.row = y.row) (h : beatsS o s t a b = true) (hap : a < b → x.at_ < y.at_) : ltN o y x = false := by
  rw [beatsS_iff o ho _ _ _ _ (.inl hs) (.inl ht)] at h
  rw [ltN_no ho]
  unfold Ahead at h
  rw [hx, hy] at h
  unfold kA kB kC at h
  unfold ltK key
  simp only
  rcases h with h | ⟨_, ⟨_, h⟩ | ⟨h, hab⟩⟩
  · omega
  · omega
  · have := hap hab
    have := h hs
    omega
theorem Run.win {o : Int} (ho : o = 1 ∨ o = 2) {L : List (List Nm)} {xs : List Src} {ats : List Nat} {rems : List (List Nm)} {all : List Row} {out : List Nm} (h : Run L xs ats rems) (hg : MG o all out rems) (hp : 1 ≤ L.length) (hf : AllFull xs) :
    (winA o xs = ((0, Row.zero, 114), xs) ∧ IsSorted o all out) ∨
    ∃ (b : Nat) (y : Nm) (rems' : List (List Nm)), winA o xs = ((((b : Nat) : Int), y.row, (0 : Int)), xs.set b Src.zero) ∧ Run L (xs.set b Src.zero) ats rems' ∧ MG o all (out ++ [y]) rems' := by
  rcases win_cases ho (by rw [h.lx]; exact hp) hf with ⟨h1, h2⟩ | ⟨b, hb, h1, h2, h3⟩
  · refine .inl ⟨h1, hg.done fun l hl => ?_⟩
    obtain ⟨i, hi⟩ := List.mem_iff_getElem?.1 hl
    have hil : i < L.length := by rw [← h.lr]; exact (List.getElem?_eq_some_iff.1 hi).1
    have e : rems.getD i [] = l := by rw [List.getD_eq_getElem?_getD, hi]; rfl
    obtain ⟨_, h4⟩ := h.one i hil
    have h5 := h2 i (by rw [h.lx]; exact hil)
    rw [e] at h4
    rcases h4 with ⟨h6, _⟩ | ⟨h6, _⟩ | ⟨_, h6⟩
    · rw [h5] at h6; cases h6
    · rw [h5] at h6; cases h6
    · exact h6
  · have hbl : b < L.length := by rw [← h.lx]; exact hb
    obtain ⟨ha, h4⟩ := h.one b hbl
    obtain ⟨y, hr, hy⟩ : ∃ y, rems.getD b [] = y :: (L.getD b []).drop (ats.getD b 0) ∧ (at' xs b).row = y.row := by
      rcases h4 with ⟨h6, _⟩ | ⟨_, h6⟩ | ⟨h6, _⟩
      · rw [h1] at h6; cases h6
      · exact h6
      · rw [h1] at h6; cases h6
    have hrb : rems[b]? = some (y :: (L.getD b []).drop (ats.getD b 0)) := by
      rw [← hr, List.getD_eq_getElem?_getD, List.getElem?_eq_getElem (by rw [h.lr]; exact hbl)]
      rfl
    refine .inr ⟨b, y, rems.set b ((L.getD b []).drop (ats.getD b 0)), by rw [h2, hy], ⟨by simpa using h.lx, h.la, by simpa using h.lr, fun j hj => ?_⟩, hg.step ho hrb fun j z m hz hne => ?_⟩
    · rw [at'_set _ _ _ _ hb, getD_set_if _ _ _ _ _ (by rw [h.lr]; exact hbl)]
      by_cases e : j = b
      · subst e
        rw [if_pos rfl, if_pos rfl]
        exact ⟨ha, .inl ⟨rfl, rfl⟩⟩
      · rw [if_neg e, if_neg e]
        exact h.one j hj
    · have hjl : j < L.length := by rw [← h.lr]; exact (List.getElem?_eq_some_iff.1 hz).1
      have hjx : j < xs.length := by rw [h.lx]; exact hjl
      have e : rems.getD j [] = z :: m := by rw [List.getD_eq_getElem?_getD, hz]; rfl
      obtain ⟨_, h5⟩ := h.one j hjl
      rw [e] at h5
      have h6 := h3 j hjx hne
      unfold bt at h6
      rcases h5 with ⟨h7, _⟩ | ⟨h7, z', h8, h9⟩ | ⟨_, h8⟩
      · have := hf j hjx
        unfold Full at this
        omega
      · injection h8 with h8 h10
        subst h8
        refine min_of ho h1 h7 hy h9 h6 fun hlt => ?_
        have hap := List.pairwise_iff_getElem.1 hg.apart b j (by rw [h.lr]; exact hbl) (by rw [h.lr]; exact hjl) hlt
        have e1 : rems[b]'(by rw [h.lr]; exact hbl) = y :: (L.getD b []).drop (ats.getD b 0) := by
          rw [List.getElem?_eq_getElem (by rw [h.lr]; exact hbl)] at hrb
          exact Option.some.inj hrb
        have e2 : rems[j]'(by rw [h.lr]; exact hjl) = z :: m := by
          rw [List.getElem?_eq_getElem (by rw [h.lr]; exact hjl)] at hz
          exact Option.some.inj hz
        exact hap y (by rw [e1]; exact List.mem_cons_self ..) z (by rw [e2]; exact List.mem_cons_self ..)
      · cases h8
end Go.Proofs.Ytgcfpepaapdjoaa
