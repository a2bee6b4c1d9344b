/- The store and the document's list of versions: the same. -/
import Derived.Test.YtkbnfnfjmofcmaaTw
import Derived.Test.YtkbnfnfjmofcmaaRk
namespace Go.Proofs.Ytkbnfnfjmofcmaa
set_option linter.unusedVariables false
set_option linter.unusedSimpArgs false
open Go.RowKit

structure Sim (s : Store) (all : List RV) : Prop where
  len : s.1 = all.length
  key : ∀ k, s.2 k = (chR all k).map RV.v
  good : Good s
theorem Sim.nil : Sim (0, fun _ => []) [] := ⟨rfl, fun _ => rfl, Good.nil⟩
theorem above_iff (v x : Ver) : aboveB v x = true ↔ vlt x v := by
  unfold aboveB vlt
  simp only [Bool.or_eq_true, Bool.and_eq_true, decide_eq_true_eq, beq_iff_eq]
  constructor
  · rintro (h | h)
    · exact .inl h
    · exact .inr ⟨h.1.symm, h.2⟩
  · rintro (h | h)
    · exact .inl h
    · exact .inr ⟨h.1.symm, h.2⟩
theorem or_pos {x v : Ver} (h : vlt x v) : ¬ 0 ≤ orI [cmpI x.commit v.commit, cmpI x.writer v.writer] := by
  unfold vlt at h
  unfold orI orI orI cmpI
  split <;> split <;> (try split) <;> (try split) <;> (try split) <;> (try split) <;> omega
theorem stale_above (x v : Ver) : decide (0 ≤ orI [cmpI x.commit v.commit, cmpI x.writer v.writer]) = !aboveB v x := by
  cases h : aboveB v x with
  | true => exact decide_eq_false (or_pos ((above_iff v x).1 h))
  | false =>
    refine decide_eq_true (Classical.byContradiction fun hn => ?_)
    rw [(above_iff v x).2 (cmp_neg hn)] at h
    cases h
theorem stale_any {l : List Ver} (h : Inc l) (v : Ver) : staleV l v = l.any fun x => !aboveB v x := by
  unfold staleV
  cases e : l.getLast? with
  | none =>
    rw [List.getLast?_eq_none_iff.1 e]
    rfl
  | some x =>
    obtain ⟨l', rfl⟩ := List.getLast?_eq_some_iff.1 e
    show decide (0 ≤ orI [cmpI x.commit v.commit, cmpI x.writer v.writer]) = _
    rw [stale_above, List.any_append]
    cases hx : aboveB v x with
    | false => simp [hx]
    | true =>
      have hp := (List.pairwise_append.1 h).2.2
      have : (l'.any fun y => !aboveB v y) = false := by
        rw [List.any_eq_false]
        intro y hy
        have := (above_iff v y).2 (vlt_trans (hp y hy x (by simp)) ((above_iff v x).1 hx))
        rw [this]
        simp
      rw [this]
      simp [hx]
theorem clash_any (all : List RV) (k : ByteArray) (v : Ver) : all.any (clash k v) = ((chR all k).map RV.v).any fun x => !aboveB v x := by
  unfold chR
  rw [List.any_map, List.any_filter]
  rfl
theorem Sim.refuse {s : Store} {all : List RV} (h : Sim s all) (k : ByteArray) (v : Ver) : refuse k v (s.2 k) = refR k v all := by
  unfold Go.Proofs.Ytkbnfnfjmofcmaa.refuse refR
  rw [clash_any, ← h.key, stale_any (h.good.inc k)]
theorem ofKey_iff (k : ByteArray) (x : RV) : ofKey k x = true ↔ x.key = k := by
  unfold ofKey
  rw [beq_iff_eq]
  exact ⟨bytes_eq, fun h => by rw [h]⟩
theorem Sim.play {s : Store} {all : List RV} (h : Sim s all) (k : ByteArray) (v : Ver) : Sim (play1 s k v) (if refR k v all = 0 then all ++ [⟨k, v⟩] else all) := by
  have hg := h.good.play k v
  revert hg
  unfold play1
  rw [h.refuse]
  split
  · intro hg
    refine ⟨by simp [h.len], fun k' => ?_, hg⟩
    show upd _ _ _ k' = _
    unfold upd chR
    rw [List.filter_append, List.map_append]
    have e := h.key k'
    unfold chR at e
    rw [← e]
    by_cases hk : k' = k
    · subst hk
      rw [if_pos rfl, List.filter_cons, if_pos ((ofKey_iff k' ⟨k', v⟩).2 rfl)]
      rfl
    · rw [if_neg hk, List.filter_cons, if_neg (fun hh => hk ((ofKey_iff k' ⟨k, v⟩).1 hh).symm)]
      simp
  · exact fun _ => h
theorem Sim.keys {s : Store} {all : List RV} {a b : List ByteArray} (h : Sim s all) (ha : KeysOf s.2 a) (hb : KeysR all b) : a = b := by
  refine up_unique ha.up hb.up fun k => ?_
  rw [ha.mem, hb.mem, h.key]
  unfold chR
  simp only [ne_eq, List.map_eq_nil_iff, List.filter_eq_nil_iff]
  constructor
  · intro hh
    refine Classical.byContradiction fun hn => hh fun x hx hk => hn ⟨x, hx, (ofKey_iff _ _).1 hk⟩
  · rintro ⟨x, hx, hk⟩ hh
    exact hh x hx ((ofKey_iff _ _).2 hk)

end Go.Proofs.Ytkbnfnfjmofcmaa
