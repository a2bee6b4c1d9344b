/- The tree of losers and the document's tree answer alike. -/
import Derived.Test.YtgcfpepaapdjoaaRW
import Derived.Test.YtgcfpepaapdjoaaX
namespace Go.Proofs.Ytgcfpepaapdjoaa
set_option linter.unusedVariables false
set_option linter.unusedSimpArgs false
open Go.RowKit

structure Sim (o : Int) (xs : List Src) (t : RT) : Prop where
  order : t.order = o
  st : t.st = xs.map Src.st
  len : t.rows.length = xs.length
  rows : ∀ i, i < xs.length → (at' xs i).st = 1 → rowAt' t.rows i = (at' xs i).row
theorem Sim.stLen {o : Int} {xs : List Src} {t : RT} (h : Sim o xs t) : t.st.length = xs.length := by rw [h.st]; simp
theorem Sim.stAt {o : Int} {xs : List Src} {t : RT} (h : Sim o xs t) (i : Nat) : t.st.getD i 0 = (at' xs i).st := by
  rw [h.st]
  unfold at'
  rw [List.getD_eq_getElem?_getD, List.getD_eq_getElem?_getD, List.getElem?_map]
  cases xs[i]? <;> rfl
theorem sim_new (o : Int) (k : Nat) : Sim o (List.replicate k Src.zero) (RT.new o k) := by
  refine ⟨rfl, by simp [RT.new, Src.zero], by simp [RT.new], fun i hi h1 => ?_⟩
  rw [at'_replicate] at h1
  simp [Src.zero] at h1
theorem Sim.wait {o : Int} {xs : List Src} {t : RT} (h : Sim o xs t) (i : Int) : waitA xs i = t.waitF i := by
  unfold waitA RT.waitF
  rw [h.stLen, h.stAt]
theorem Sim.put {o : Int} {xs : List Src} {t : RT} (h : Sim o xs t) {n : Nat} (hn : n < xs.length) (s : Src) (r : Row) (hr : s.st = 1 → r = s.row) :
    Sim o (xs.set n s) { t with st := t.st.set n s.st, rows := t.rows.set n r } := by
  refine ⟨h.order, ?_, by simpa using h.len, fun i hi h1 => ?_⟩
  · simp only; rw [h.st, List.map_set]
  · rw [List.length_set] at hi
    rw [at'_set _ _ _ _ hn] at h1 ⊢
    simp only
    unfold rowAt'
    rw [List.getD_eq_getElem?_getD]
    by_cases e : i = n
    · subst e
      rw [if_pos rfl] at h1 ⊢
      rw [List.getElem?_set_self (by rw [h.len]; exact hn)]
      exact hr h1
    · rw [if_neg e] at h1 ⊢
      rw [List.getElem?_set_ne (Ne.symm e)]
      have := h.rows i hi h1
      unfold rowAt' at this
      rw [List.getD_eq_getElem?_getD] at this
      exact this
theorem waitA_zero {xs : List Src} {i : Int} (h : waitA xs i = 0) : ∃ n : Nat, i = n ∧ n < xs.length := by
  unfold waitA at h
  split at h
  · omega
  · exact ⟨i.toNat, by omega, by omega⟩
theorem Sim.feed {o : Int} {xs : List Src} {t : RT} (h : Sim o xs t) (i : Int) (r : Row) : feedA xs i r = t.putF i r 1 ∧ Sim o (feedS xs i r) (t.putS i r 1) := by
  have e : feedA xs i r = t.putF i r 1 := by
    unfold feedA RT.putF
    rw [h.wait i]
    by_cases hw : t.waitF i ≠ 0
    · rw [if_pos hw, if_pos hw]
    · rw [if_neg hw, if_neg hw]
      cases r.ok <;> simp
  refine ⟨e, ?_⟩
  unfold feedS RT.putS
  rw [← e]
  by_cases hf : feedA xs i r = 0
  · rw [if_pos hf, if_pos hf]
    have hw : waitA xs i = 0 := by
      unfold feedA at hf
      split at hf
      · exact hf
      · rename_i hx; simpa using hx
    obtain ⟨n, rfl, hn⟩ := waitA_zero hw
    exact h.put hn ⟨1, r⟩ r (fun _ => rfl)
  · rw [if_neg hf, if_neg hf]
    exact h
theorem Sim.fin {o : Int} {xs : List Src} {t : RT} (h : Sim o xs t) (i : Int) : waitA xs i = t.putF i Row.zero 2 ∧ Sim o (finS xs i) (t.putS i Row.zero 2) := by
  have e : waitA xs i = t.putF i Row.zero 2 := by
    unfold RT.putF
    rw [h.wait i]
    by_cases hw : t.waitF i ≠ 0
    · rw [if_pos hw]
    · rw [if_neg hw]
      simpa using hw
  refine ⟨e, ?_⟩
  unfold finS RT.putS
  rw [← e]
  by_cases hf : waitA xs i = 0
  · rw [if_pos hf, if_pos hf]
    obtain ⟨n, rfl, hn⟩ := waitA_zero hf
    exact h.put hn Src.fin Row.zero (fun h => by simp [Src.fin] at h)
  · rw [if_neg hf, if_neg hf]
    exact h
theorem Sim.waits {o : Int} {xs : List Src} {t : RT} (h : Sim o xs t) : waitsTo xs xs.length = waitsR t.st t.st.length := by
  unfold waitsTo waitsR
  rw [h.stLen]
  congr 1
  funext i
  rw [h.stAt]
theorem Sim.any {o : Int} {xs : List Src} {t : RT} (h : Sim o xs t) : anyWait xs = t.anyWait := by
  unfold anyWait RT.anyWait
  rw [h.st, List.any_map]
  rfl
theorem before_bt {o : Int} (ho : o = 1 ∨ o = 2) {xs : List Src} {i b : Nat} (hb : b < i) (h1 : (at' xs i).st = 1) (h2 : (at' xs b).st = 1) : before o (at' xs i).row (at' xs b).row = bt o xs i b := by
  unfold before bt beatsS
  rw [if_pos (by rw [h1, h2]), if_pos h1]
  split
  · rename_i hz
    rw [hz]
    simp
    omega
  · rfl
theorem Sim.best {o : Int} {xs : List Src} {t : RT} (h : Sim o xs t) (ho : o = 1 ∨ o = 2) (hf : AllFull xs) (i : Nat) (hi : i ≤ xs.length) :
    (t.bestTo i = none ∧ ∀ j, j < i → (at' xs j).st ≠ 1) ∨ (∃ b, t.bestTo i = some b ∧ b < i ∧ (at' xs b).st = 1 ∧ ∀ j, j < i → (at' xs j).st = 1 → j ≠ b → bt o xs b j = true) := by
  induction i with
  | zero => exact .inl ⟨rfl, fun j hj => by omega⟩
  | succ i ih =>
    rw [RT.bestTo, h.stAt]
    by_cases hs : (at' xs i).st = 1
    · rw [if_pos hs]
      rcases ih (by omega) with ⟨h1, h2⟩ | ⟨b, h1, h2, h3, h4⟩
      · rw [h1]
        refine .inr ⟨i, rfl, by omega, hs, fun j hj hj1 hne => absurd hj1 (h2 j (by omega))⟩
      · rw [h1]
        simp only
        rw [h.rows i (by omega) hs, h.rows b (by omega) h3, h.order, before_bt ho h2 hs h3]
        by_cases hb : bt o xs i b = true
        · rw [if_pos hb]
          refine .inr ⟨i, rfl, by omega, hs, fun j hj hj1 hne => ?_⟩
          by_cases e : j = b
          · subst e; exact hb
          · exact bt_trans ho hf (by omega) (by omega) (by omega) hb (h4 j (by omega) hj1 e)
        · rw [if_neg hb]
          refine .inr ⟨b, rfl, by omega, h3, fun j hj hj1 hne => ?_⟩
          by_cases e : j = i
          · subst e
            rw [bt_not ho hf (by omega) (by omega) (Ne.symm hne)]
            simpa using hb
          · exact h4 j (by omega) hj1 hne
    · rw [if_neg hs]
      rcases ih (by omega) with ⟨h1, h2⟩ | ⟨b, h1, h2, h3, h4⟩
      · refine .inl ⟨h1, fun j hj => ?_⟩
        by_cases e : j = i
        · subst e; exact hs
        · exact h2 j (by omega)
      · refine .inr ⟨b, h1, by omega, h3, fun j hj hj1 hne => h4 j ?_ hj1 hne⟩
        by_cases e : j = i
        · subst e; exact absurd hj1 hs
        · omega
theorem Sim.win {o : Int} {xs : List Src} {t : RT} (h : Sim o xs t) (ho : o = 1 ∨ o = 2) (hp : 1 ≤ xs.length) (hst : ∀ i, i < xs.length → (at' xs i).st = 0 ∨ Full (at' xs i)) :
    (winA o xs).1 = t.winF.1 ∧ Sim o (winA o xs).2 t.winF.2 := by
  unfold winA RT.winF
  rw [← h.any]
  by_cases ha : anyWait xs = true
  · rw [if_pos ha, if_pos ha]
    exact ⟨rfl, h⟩
  · rw [if_neg ha, if_neg ha, h.stLen]
    have ha' : anyWait xs = false := by simpa using ha
    have hf : AllFull xs := fun i hi => (hst i hi).resolve_left (anyWait_false ha' i hi)
    have wl : W o xs 1 < xs.length := W_lt (by omega) (by omega)
    rcases h.best ho hf xs.length (Nat.le_refl _) with ⟨h1, h2⟩ | ⟨b, h1, h2, h3, h4⟩
    · have : (at' xs (W o xs 1)).st = 2 := (hf _ wl).resolve_left (h2 _ wl)
      rw [if_pos this, h1]
      exact ⟨rfl, h⟩
    · have hW : W o xs 1 = b := by
        rcases W_one ho hf hp b h2 with e | e
        · exact e.symm
        · by_cases hs : (at' xs (W o xs 1)).st = 1
          · by_cases hne : W o xs 1 = b
            · exact hne
            · have := h4 _ wl hs hne
              rw [bt_not ho hf h2 wl (Ne.symm hne), e] at this
              simp at this
          · have h5 : (at' xs (W o xs 1)).st = 2 := (hf _ wl).resolve_left hs
            unfold bt beatsS at e
            rw [if_neg (by omega)] at e
            simp at e
            omega
      rw [hW, if_neg (by omega), h1]
      refine ⟨by simp only; rw [h.rows b h2 h3], ?_⟩
      simp only
      have p := h.put (t := t) h2 Src.zero (rowAt' t.rows b) (fun h => by simp [Src.zero] at h)
      have : t.rows.set b (rowAt' t.rows b) = t.rows := by
        apply List.ext_getElem?
        intro j
        by_cases e : b = j
        · subst e
          rw [List.getElem?_set_self (by rw [h.len]; exact h2), rowAt'_some (by rw [h.len]; exact h2)]
        · rw [List.getElem?_set_ne e]
      rw [this] at p
      exact p
theorem Sim.st0 {o : Int} {xs : List Src} {t : RT} (h : Sim o xs t) : t.st.length = xs.length := h.stLen
end Go.Proofs.Ytgcfpepaapdjoaa
