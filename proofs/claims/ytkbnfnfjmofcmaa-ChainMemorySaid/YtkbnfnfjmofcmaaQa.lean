/- The store of the memory law: its chains and its keys. No program in sight. -/
import Derived.Test.YtkbnfnfjmofcmaaTw
import Derived.Test.YtkbnfnfjmofcmaaKy
namespace Go.Proofs.Ytkbnfnfjmofcmaa
set_option linter.unusedVariables false
set_option linter.unusedSimpArgs false
open Go.RowKit

def zK : ByteArray := ⟨#[122]⟩
def letters : ByteArray := ⟨#[97, 98, 99, 100, 101, 102, 103, 104, 105, 106, 107, 108, 109, 110, 111, 112, 113, 114, 115, 116, 117, 118, 119, 120, 121, 122, 65, 66, 67, 68, 69, 70, 71, 72, 73, 74, 75, 76, 77, 78, 79, 80, 81, 82, 83, 84, 85, 86, 87, 88, 89, 90]⟩
def letter (i : Nat) : UInt8 := letters.data.getD i 0
def nm (i : Nat) : ByteArray := ⟨#[letter i, 113]⟩
theorem letter_inj : ∀ i, i < 52 → ∀ j, j < 52 → letter i = letter j → i = j := by decide +kernel
theorem nm_inj {i j : Nat} (hi : i < 52) (hj : j < 52) (h : nm i = nm j) : i = j := by
  unfold nm at h
  injection h with h
  have h1 : (#[letter i, 113] : Array UInt8)[0]? = (#[letter j, 113] : Array UInt8)[0]? := by rw [h]
  simp at h1
  exact letter_inj i hi j hj h1
theorem nm_ne (i : Nat) : nm i ≠ zK := by
  intro h
  have := congrArg ByteArray.size h
  have h1 : (nm i).size = 2 := rfl
  have h2 : zK.size = 1 := rfl
  omega
def vv (a b : Int) : Ver := ⟨a, b, false, ⟨#[]⟩⟩
def zs (i : Nat) : List Ver := (List.range i).map fun (j : Nat) => vv j j
theorem zs_succ (i : Nat) : zs (i + 1) = zs i ++ [vv i i] := by unfold zs; rw [List.range_succ, List.map_append]; rfl
theorem zs_length (i : Nat) : (zs i).length = i := by simp [zs]
theorem zs_at {i j : Nat} (h : j < i) : (zs i)[j]? = some (vv j j) := by simp [zs, h]
def stS : Nat → Store
  | 0 => (0, fun _ => [])
  | i + 1 => play1 (play1 (stS i) zK (vv i i)) (nm i) (vv i 0)
theorem stS_good (i : Nat) : Good (stS i) := by
  induction i with
  | zero => exact Good.nil
  | succ i ih => exact (ih.play _ _).play _ _
theorem right_vv {a b : Int} (h1 : 0 ≤ a) (h2 : a ≤ 5000) (h3 : 0 ≤ b) (h4 : b < 4096) : rightV (vv a b) = true := by
  unfold vv
  rw [← rightV_yes ⟨h1, by omega, h3, h4, by decide⟩]
  simp [ByteArray.toList_eq]
theorem orI_neg {a b c d : Int} (h : a < b) : orI [cmpI a b, cmpI c d] = -1 := by unfold cmpI; rw [if_pos h]; rfl
theorem refuse_z {i : Nat} (hi : i < 4000) : refuse zK (vv i i) (zs i) = 0 := by
  unfold refuse
  rw [if_neg (by decide), if_neg (by rw [right_vv (by omega) (by omega) (by omega) (by omega)]; decide), if_neg]
  cases i with
  | zero => simp [staleV, zs]
  | succ i =>
    rw [staleV_at (n := i) (x := vv i i) (by rw [zs_length]) (zs_at (by omega)), orI_neg (by simp only [vv]; omega)]
    decide
theorem refuse_n {i : Nat} (hi : i < 4000) : refuse (nm i) (vv i 0) [] = 0 := by
  unfold refuse
  rw [if_neg (by show ¬ ((2 : Nat) < 1 ∨ 8 < 2); decide), if_neg (by rw [right_vv (by omega) (by omega) (by omega) (by omega)]; decide), if_neg (by simp [staleV])]
structure StF (i : Nat) (s : Store) : Prop where
  z : s.2 zK = zs i
  old : ∀ j, j < i → s.2 (nm j) = [vv j 0]
  new : ∀ j, i ≤ j → j < 52 → s.2 (nm j) = []
  mem : ∀ k, s.2 k ≠ [] ↔ (k = zK ∧ 0 < i) ∨ ∃ j, j < i ∧ k = nm j
theorem play_ok {s : Store} {k : ByteArray} {v : Ver} (h : refuse k v (s.2 k) = 0) : play1 s k v = (s.1 + 1, upd s.2 k (s.2 k ++ [v])) := by unfold play1; rw [if_pos h]
theorem stS_facts : ∀ i, i ≤ 51 → StF i (stS i) := by
  intro i
  induction i with
  | zero => intro _; exact ⟨rfl, fun j hj => by omega, fun j _ _ => rfl, fun k => by simp [stS]⟩
  | succ i ih =>
    intro hi
    have h := ih (by omega)
    have e1 : play1 (stS i) zK (vv i i) = ((stS i).1 + 1, upd (stS i).2 zK (zs (i + 1))) := by
      rw [play_ok (by rw [h.z]; exact refuse_z (by omega)), h.z, zs_succ]
    have hn : (upd (stS i).2 zK (zs (i + 1))) (nm i) = [] := by
      unfold upd
      rw [if_neg (nm_ne i)]
      exact h.new i (Nat.le_refl _) (by omega)
    have e2 : stS (i + 1) = ((stS i).1 + 1 + 1, upd (upd (stS i).2 zK (zs (i + 1))) (nm i) [vv i 0]) := by
      show play1 (play1 (stS i) zK (vv i i)) (nm i) (vv i 0) = _
      rw [e1, play_ok (by simp only; rw [hn]; exact refuse_n (by omega))]
      simp only
      rw [hn]
      rfl
    rw [e2]
    refine ⟨?_, fun j hj => ?_, fun j hj hj2 => ?_, fun k => ?_⟩
    · simp only [upd]
      rw [if_neg (Ne.symm (nm_ne i))]
      simp
    · simp only [upd]
      by_cases e : j = i
      · subst e
        rw [if_pos rfl]
      · rw [if_neg (fun hh => e (nm_inj (by omega) (by omega) hh)), if_neg (nm_ne j)]
        exact h.old j (by omega)
    · simp only [upd]
      rw [if_neg (fun hh => by have := nm_inj (i := j) (j := i) (by omega) (by omega) hh; omega), if_neg (nm_ne j)]
      exact h.new j (by omega) hj2
    · simp only [upd]
      by_cases e1 : k = nm i
      · rw [if_pos e1]
        simp
        exact .inr ⟨i, by omega, e1⟩
      · rw [if_neg e1]
        by_cases e2 : k = zK
        · rw [if_pos e2]
          simp [zs, e2]
        · rw [if_neg e2, h.mem]
          constructor
          · rintro (⟨e, _⟩ | ⟨j, hj, e⟩)
            · exact absurd e e2
            · exact .inr ⟨j, by omega, e⟩
          · rintro (⟨e, _⟩ | ⟨j, hj, e⟩)
            · exact absurd e e2
            · by_cases hji : j = i
              · subst hji; exact absurd e e1
              · exact .inr ⟨j, by omega, e⟩
/-- The keys: one more than the rounds. -/
theorem keys_count {n : Nat} {st : ByteArray → List Ver} (hn : 0 < n) (hn2 : n ≤ 51) (hm : ∀ k, st k ≠ [] ↔ (k = zK ∧ 0 < n) ∨ ∃ j, j < n ∧ k = nm j) {ks : List ByteArray} (hk : KeysOf st ks) : ks.length = n + 1 ∧ ∀ k ∈ ks, k ≠ ⟨#[63]⟩ := by
  have hnd : (zK :: (List.range n).map nm).Nodup := by
    rw [List.nodup_cons]
    refine ⟨fun h => ?_, ?_⟩
    · obtain ⟨j, -, e⟩ := List.mem_map.1 h
      exact nm_ne j e
    · rw [List.Nodup, List.pairwise_map]
      refine (List.pairwise_lt_range (n := n)).imp_of_mem fun {a b} ha hb hab e => ?_
      have := nm_inj (i := a) (j := b) (by have := List.mem_range.1 ha; omega) (by have := List.mem_range.1 hb; omega) e
      omega
  have hp : ks.Perm (zK :: (List.range n).map nm) := (List.perm_ext_iff_of_nodup (up_nodup hk.up) hnd).2 fun k => by
    rw [hk.mem, hm, List.mem_cons, List.mem_map]
    constructor
    · rintro (⟨e, _⟩ | ⟨j, hj, e⟩)
      · exact .inl e
      · exact .inr ⟨j, List.mem_range.2 hj, e.symm⟩
    · rintro (e | ⟨j, hj, e⟩)
      · exact .inl ⟨e, hn⟩
      · exact .inr ⟨j, List.mem_range.1 hj, e.symm⟩
  refine ⟨by rw [hp.length_eq]; simp, fun k hk => ?_⟩
  rcases List.mem_cons.1 (hp.subset hk) with rfl | h
  · decide
  · obtain ⟨j, -, rfl⟩ := List.mem_map.1 h
    intro e
    have h1 := congrArg ByteArray.size e
    have h2 : (nm j).size = 2 := rfl
    rw [h2] at h1
    exact absurd h1 (by decide)
/-- The last version, and the pruning. -/
def stL (n : Nat) : Store := play1 (stS n) zK (vv 100 0)
theorem stL_good (n : Nat) : Good (stL n) := (stS_good n).play _ _
theorem stL_eq {n : Nat} (h0 : 0 < n) (hn : n ≤ 50) : refuse zK (vv 100 0) ((stS n).2 zK) = 0 ∧ stL n = ((stS n).1 + 1, upd (stS n).2 zK (zs n ++ [vv 100 0])) := by
  have h := stS_facts n (by omega)
  have hr : refuse zK (vv 100 0) ((stS n).2 zK) = 0 := by
    rw [h.z]
    unfold refuse
    rw [if_neg (by decide), if_neg (by rw [right_vv (by omega) (by omega) (by omega) (by omega)]; decide), if_neg]
    obtain ⟨m, rfl⟩ : ∃ m, n = m + 1 := ⟨n - 1, by omega⟩
    rw [staleV_at (n := m) (x := vv m m) (by rw [zs_length]) (zs_at (by omega)), orI_neg (by simp only [vv]; omega)]
    decide
  refine ⟨hr, ?_⟩
  unfold stL
  rw [play_ok hr, h.z]
theorem cut_all {l : List Ver} {t : Int} (h : ∀ v ∈ l, v.commit ≤ t) : cut l t = l.length := by
  unfold cut
  induction l with
  | nil => rfl
  | cons x l ih =>
    rw [List.takeWhile_cons, if_pos (by simpa using h x (List.mem_cons_self ..)), List.length_cons, List.length_cons, ih fun v hv => h v (List.mem_cons_of_mem _ hv)]
theorem prn_z {n : Nat} (h0 : 0 < n) (hn : n ≤ 50) : prn 200 (zs n ++ [vv 100 0]) = [vv 100 0] := by
  have hc : cut (zs n ++ [vv 100 0]) 200 = n + 1 := by
    rw [cut_all, List.length_append, zs_length]
    · rfl
    · intro v hv
      rcases List.mem_append.1 hv with hv | hv
      · unfold zs at hv
        obtain ⟨j, hj, rfl⟩ := List.mem_map.1 hv
        have := List.mem_range.1 hj
        simp only [vv]
        omega
      · rw [List.mem_singleton] at hv
        subst hv
        decide
  unfold prn
  rw [hc, if_pos (by omega), Nat.add_sub_cancel, List.drop_append_of_le_length (by rw [zs_length]; exact Nat.le_refl _), List.drop_eq_nil_of_le (by rw [zs_length]; exact Nat.le_refl _)]
  rfl
theorem prn_iff {t : Int} {l : List Ver} : prn t l ≠ [] ↔ l ≠ [] := ⟨fun h e => h (by subst e; unfold prn; split <;> simp), prn_ne⟩
theorem stP_facts {n : Nat} (h0 : 0 < n) (hn : n ≤ 50) : prn 200 ((stL n).2 zK) = [vv 100 0] ∧ ∀ k, prn 200 ((stL n).2 k) ≠ [] ↔ (k = zK ∧ 0 < n) ∨ ∃ j, j < n ∧ k = nm j := by
  obtain ⟨_, e⟩ := stL_eq h0 hn
  have h := stS_facts n (by omega)
  rw [e]
  refine ⟨?_, fun k => ?_⟩
  · simp only [upd]
    simpa using prn_z h0 hn
  · rw [prn_iff]
    simp only [upd]
    by_cases ek : k = zK
    · rw [if_pos ek]
      simp [ek, h0]
    · rw [if_neg ek, h.mem]
end Go.Proofs.Ytkbnfnfjmofcmaa
