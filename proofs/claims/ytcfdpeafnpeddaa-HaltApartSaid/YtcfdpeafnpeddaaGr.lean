/- The tree of stops grows by one: in memory. -/
import Derived.Test.YtcfdpeafnpeddaaG
namespace Go.Proofs.Ytcfdpeafnpeddaa
set_option linter.unusedVariables false
set_option linter.unusedSimpArgs false
open Go.Conc Go.RowKit Go.MuLone

def Pl.grow (x : Pl) (n i nb nc : Nat) (v : Value) : Pl := ⟨x.T, fun k => if k = n then nb else x.B k, fun k => if k = n then nc else x.C k, fun k => if k = n then .slice none 0 0 else if k = i then v else x.K k⟩
theorem kidsOf_child {st : List St} (hw : Wf st) (i : Nat) (hi : i < st.length) (m c : Int) (j : Nat) (hj : j < st.length) : kidsOf (child0 st i m c) j = if j = i then kidsOf st j ++ [st.length] else kidsOf st j := by
  unfold kidsOf
  rw [child0_length, List.range_succ, List.filter_append]
  have e1 : (List.range st.length).filter (fun k => (ns (child0 st i m c) k).par == (j : Int)) = (List.range st.length).filter (fun k => (ns st k).par == (j : Int)) := by
    apply List.filter_congr
    intro k hk
    rw [List.mem_range] at hk
    rw [child0_ns, if_neg (by omega)]
  have e2 : ((ns (child0 st i m c) st.length).par == (j : Int)) = decide (j = i) := by
    rw [child0_ns, if_pos rfl]
    by_cases e : j = i
    · subst e; simp
    · rw [decide_eq_false e]; simp; omega
  rw [e1]
  by_cases e : j = i
  · rw [if_pos e, List.filter_cons, e2, if_pos (by simpa using e), List.filter_nil]
  · rw [if_neg e, List.filter_cons, e2, if_neg (by simpa using e), List.filter_nil, List.append_nil]
theorem kidsOf_last {st : List St} (hw : Wf st) (i : Nat) (hi : i < st.length) (m c : Int) : kidsOf (child0 st i m c) st.length = [] := by
  unfold kidsOf
  rw [List.filter_eq_nil_iff]
  intro k hk
  rw [child0_length, List.mem_range] at hk
  rw [child0_ns]
  split
  · simp only [beq_iff_eq]; omega
  · have := hw.par k (by omega)
    simp only [beq_iff_eq]; omega
theorem HT.grow {w w' : World} {x : Pl} {l : Int} {st : List St} (h : HT w x l st) (hw : Wf st) {i : Nat} (hi : i < st.length) {m : Int} {nb nc : Nat} {v : Value}
    (ht : Turn (fun b => b = x.T ∨ b = x.B i ∨ (x.K i).ownBlock = some b) w w') (r1 : RowAt w' x.T 59 [.int .i32 l, .int .u32 0, .int .i64 ((st.length : Int) + 1)])
    (r2 : RowAt w' (x.B i) 67 (stopC (.pointer (some ⟨x.T, 0, none⟩)) (x.par (ns st i).par) v (ns st i).left (ns st i).cause (done (ns st i).cause) 0 0 (x.C i)))
    (o : Own w' 0 23 1 ptrC v ((kidsOf st i).map x.B ++ [nb])) (ob : ∀ g, v.ownBlock = some g → (x.K i).ownBlock = some g ∨ w.heap.size ≤ g)
    (r3 : RowAt w' nb 67 (stopC (.pointer (some ⟨x.T, 0, none⟩)) (.pointer (some ⟨x.B i, 0, none⟩)) (.slice none 0 0) m 0 0 0 0 nc)) (c3 : w'.heap[nc]? = some (chanO 0)) (hnb : w.heap.size ≤ nb) (hnc : w.heap.size ≤ nc) :
    HT w' (x.grow st.length i nb nc v) l (child0 st i m 0) := by
  have hpar : ∀ p : Int, p < st.length → (x.grow st.length i nb nc v).par p = x.par p := by
    intro p hp
    unfold Pl.par Pl.grow
    by_cases hn : p < 0
    · rw [if_pos hn, if_pos hn]
    · rw [if_neg hn, if_neg hn]
      simp only
      rw [if_neg (by omega)]
  have hmap : ∀ j, (kidsOf st j).map (x.grow st.length i nb nc v).B = (kidsOf st j).map x.B := by
    intro j
    apply List.map_congr_left
    intro k hk
    have := ((kidsOf_mem st j k).1 hk).1
    simp only [Pl.grow]
    rw [if_neg (by omega)]
  have hB : ∀ k, k < st.length → (x.grow st.length i nb nc v).B k = x.B k := fun k hk => by simp only [Pl.grow]; rw [if_neg (by omega)]
  have hC : ∀ k, k < st.length → (x.grow st.length i nb nc v).C k = x.C k := fun k hk => by simp only [Pl.grow]; rw [if_neg (by omega)]
  have hBn : (x.grow st.length i nb nc v).B st.length = nb := by simp [Pl.grow]
  have hCn : (x.grow st.length i nb nc v).C st.length = nc := by simp [Pl.grow]
  have hKn : (x.grow st.length i nb nc v).K st.length = .slice none 0 0 := by simp [Pl.grow]
  have hKi : (x.grow st.length i nb nc v).K i = v := by simp only [Pl.grow]; rw [if_neg (by omega)]; simp
  have hK : ∀ k, k < st.length → k ≠ i → (x.grow st.length i nb nc v).K k = x.K k := fun k hk hne => by simp only [Pl.grow]; rw [if_neg (by omega), if_neg hne]
  have ltB : ∀ k, k < st.length → x.B k < w.heap.size := fun k hk => (h.node k hk).lt
  have ltC : ∀ k, k < st.length → x.C k < w.heap.size := fun k hk => (Array.getElem?_eq_some_iff.1 (h.chan k hk)).1
  have kblk : ∀ k, k < st.length → ∀ g, ((x.grow st.length i nb nc v).K k).ownBlock = some g → (x.K k).ownBlock = some g ∨ (w.heap.size ≤ g ∧ k = i) := by
    intro k hk g hg
    by_cases e : k = i
    · subst e
      rw [hKi] at hg
      rcases ob g hg with h1 | h1
      · exact .inl h1
      · exact .inr ⟨h1, rfl⟩
    · rw [hK k hk e] at hg
      exact .inl hg
  refine ⟨?_, fun k hk => ?_, fun k hk => ?_, fun k hk => ?_, fun a b ha hb e => ?_, fun a b ha hb e => ?_, fun a b ha hb hne g hg hg' => ?_⟩
  · exact r1.congr (by rw [child0_length]; simp)
  · rw [child0_length] at hk
    by_cases e : k = st.length
    · subst e
      rw [hBn, child0_ns, if_pos rfl]
      refine r3.congr ?_
      simp only [Pl.node, hKn, hCn]
      rw [hpar _ (by omega), par_nat]
      simp [done, Pl.grow]
    · have hkl : k < st.length := by omega
      rw [hB k hkl, child0_ns, if_neg e]
      have hpk := hw.par k hkl
      by_cases e' : k = i
      · subst e'
        refine r2.congr ?_
        simp only [Pl.node, hKi, hC k hkl]
        rw [hpar _ (by omega)]
        simp [Pl.grow]
      · refine ((h.node k hkl).turn ht ?_).congr ?_
        · rintro (h1 | h1 | h1)
          · exact (h.node k hkl).ne h.tree (by decide) h1
          · exact e' (h.bInj _ _ hkl hi h1)
          · exact absurd (own_row (h.kids i hi) h1 (h.node k hkl)) (by decide)
        · simp only [Pl.node, hK k hkl e', hC k hkl]
          rw [hpar _ (by omega)]
          simp [Pl.grow]
  · rw [child0_length] at hk
    by_cases e : k = st.length
    · subst e
      rw [hCn, child0_ns, if_pos rfl]
      exact c3
    · have hkl : k < st.length := by omega
      rw [hC k hkl, child0_ns, if_neg e, ht.block _ (ltC k hkl) ?_]
      · exact h.chan k hkl
      · rintro (h1 | h1 | h1)
        · exact chan_row (h.chan k hkl) h.tree h1
        · exact chan_row (h.chan k hkl) (h.node i hi) h1
        · exact own_chan (h.kids i hi) h1 (h.chan k hkl)
  · rw [child0_length] at hk
    by_cases e : k = st.length
    · subst e
      rw [hKn, kidsOf_last hw i hi]
      exact Own.nil w' 0 23 1 ptrC
    · have hkl : k < st.length := by omega
      rw [kidsOf_child hw i hi m 0 k hkl]
      by_cases e' : k = i
      · subst e'
        rw [if_pos rfl, hKi, List.map_append, hmap]
        simp only [List.map_cons, List.map_nil, hBn]
        exact o
      · rw [if_neg e', hK k hkl e', hmap]
        refine (h.kids k hkl).turn ht fun g hg => ?_
        rintro (h1 | h1 | h1)
        · exact absurd (own_row (h.kids k hkl) hg (by rw [h1]; exact h.tree)) (by decide)
        · exact absurd (own_row (h.kids k hkl) hg (by rw [h1]; exact h.node i hi)) (by decide)
        · exact h.kInj k i hkl hi e' g hg h1
  · rw [child0_length] at ha hb
    by_cases ea : a = st.length
    · by_cases eb : b = st.length
      · omega
      · rw [ea, hBn, hB b (by omega)] at e
        have := ltB b (by omega)
        omega
    · by_cases eb : b = st.length
      · rw [eb, hBn, hB a (by omega)] at e
        have := ltB a (by omega)
        omega
      · rw [hB a (by omega), hB b (by omega)] at e
        exact h.bInj a b (by omega) (by omega) e
  · rw [child0_length] at ha hb
    by_cases ea : a = st.length
    · by_cases eb : b = st.length
      · omega
      · rw [ea, hCn, hC b (by omega)] at e
        have := ltC b (by omega)
        omega
    · by_cases eb : b = st.length
      · rw [eb, hCn, hC a (by omega)] at e
        have := ltC a (by omega)
        omega
      · rw [hC a (by omega), hC b (by omega)] at e
        exact h.cInj a b (by omega) (by omega) e
  · rw [child0_length] at ha hb
    by_cases ea : a = st.length
    · rw [ea, hKn] at hg
      simp [Value.ownBlock] at hg
    · by_cases eb : b = st.length
      · rw [eb, hKn] at hg'
        simp [Value.ownBlock] at hg'
      · have k1 := kblk a (by omega) g hg
        have k2 := kblk b (by omega) g hg'
        have l1 : (x.K a).ownBlock = some g → g < w.heap.size := fun h1 => ((h.kids a (by omega)).base g h1).2
        have l2 : (x.K b).ownBlock = some g → g < w.heap.size := fun h1 => ((h.kids b (by omega)).base g h1).2
        rcases k1 with k1 | ⟨k1, k1'⟩
        · rcases k2 with k2 | ⟨k2, k2'⟩
          · exact h.kInj a b (by omega) (by omega) hne g k1 k2
          · have := l1 k1; omega
        · rcases k2 with k2 | ⟨k2, k2'⟩
          · have := l2 k2; omega
          · omega
theorem grow_own {x : Pl} {n i nb nc : Nat} {v : Value} {N : Nat} (hi : i < n) (ob : ∀ g, v.ownBlock = some g → (x.K i).ownBlock = some g ∨ N ≤ g) (hnb : N ≤ nb) (hnc : N ≤ nc) (b : Nat) (hb : (x.grow n i nb nc v).own (n + 1) b) : x.own n b ∨ N ≤ b := by
  rcases hb with h | ⟨k, hk, h⟩
  · exact .inl (.inl h)
  · simp only [Pl.grow] at h
    by_cases e : k = n
    · rw [if_pos e, if_pos e, if_pos e] at h
      rcases h with h | h | h
      · exact .inr (by omega)
      · exact .inr (by omega)
      · simp [Value.ownBlock] at h
    · rw [if_neg e, if_neg e, if_neg e] at h
      rcases h with h | h | h
      · exact .inl (.inr ⟨k, by omega, .inl h⟩)
      · exact .inl (.inr ⟨k, by omega, .inr (.inl h)⟩)
      · by_cases e' : k = i
        · rw [if_pos e'] at h
          rcases ob b h with h1 | h1
          · exact .inl (.inr ⟨i, hi, .inr (.inr h1)⟩)
          · exact .inr h1
        · rw [if_neg e'] at h
          exact .inl (.inr ⟨k, by omega, .inr (.inr h)⟩)
end Go.Proofs.Ytcfdpeafnpeddaa
