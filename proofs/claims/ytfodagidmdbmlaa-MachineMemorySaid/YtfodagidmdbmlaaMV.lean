/- What finish does. -/
import Derived.Test.YtfodagidmdbmlaaMU
namespace Go.Proofs.Ytfodagidmdbmlaa
set_option linter.unusedVariables false
set_option linter.unusedSimpArgs false
open Go.RowKit

theorem set_same {α : Type} {l : List α} {i : Nat} {b : α} (h : l[i]? = some b) : l.set i b = l := by
  apply List.ext_getElem?
  intro k
  rw [List.getElem?_set]
  by_cases e : i = k
  · subst e
    rw [if_pos rfl, if_pos (List.getElem?_eq_some_iff.1 h).1, h]
  · rw [if_neg e]
theorem sess_now {pl : List Pl} {l : List (Option Nat × Int)} {s : Nat} {o : Option Nat} {sq : Int} (h : l[s]? = some (o, sq)) (o' : Option Nat) :
    (l.flatMap (sessC pl)).set (s * 2) (.pointer (o'.map fun i => ⟨(plAt pl i).b, 0, none⟩)) = (l.set s (o', sq)).flatMap (sessC pl) := by
  have hl : s < l.length := (List.getElem?_eq_some_iff.1 h).1
  rw [← flat_set (sessC_len pl) l s (o', sq) hl]
  show _ = ((l.flatMap (sessC pl)).set (s * 2) _).set (s * 2 + 1) _
  refine (set_same ?_).symm
  rw [List.getElem?_set, if_neg (by omega), flat_at (sessC_len pl) l s 1 (by omega) h]
  rfl
section
variable {w w' : World} {m : Nat} {M : Mach} {gs p : Nat} {lv : Value} {pl : List Pl} {Fs : Nat → Prop} {N : Nat}
/-- A transaction ends: the log grows. -/
theorem MachAt.setLog (h : MachAt w m M gs p lv pl Fs N) (j : Nat) {lv' : Value} (ht : Turn (fun k => k = m ∨ lv.ownBlock = some k) w w') (hr : RowAt w' m 73 (rowM M gs p lv')) (hl : Own w' 0 55 8 logC lv' (logOf M pl ++ [(M.all.getD j Run.zero, (plAt pl j).ov)]))
    (hloc : ∀ g, lv'.ownBlock = some g → lv.ownBlock = some g ∨ w.heap.size ≤ g) : MachAt w' m { M with ends := M.ends ++ [j] } gs p lv' pl Fs N := by
  refine ⟨hr, h.ses.turn ht fun hh => ?_, h.sto.turn ht fun i hi hh => ?_, h.len, fun i r q h1 h2 => ?_, h.dst, ?_, fun i hi => ?_⟩
  · rcases hh with hh | hh
    · exact h.ses.ne h.row (by decide) hh
    · exact own_far h.log h.ses (by decide) hh
  · rcases hh with hh | hh
    · exact (h.far i hi).1 hh
    · exact (h.far i hi).2.2.1 hh
  · have hf := h.act_far h.row (by decide) (by decide) (by decide) h2
    have ha := h.act i r q h1 h2
    refine ha.turn ht (fun hh => ?_) (fun g hg hh => ?_) (fun g hg hh => ?_)
    · rcases hh with hh | hh
      · exact hf.1 hh
      · exact own_far h.log ha.row (by decide) hh
    · rcases hh with hh | hh
      · exact hf.2.1 (by rw [← hh]; exact hg)
      · exact own_two ha.ops h.log (by decide) g hg hh
    · rcases hh with hh | hh
      · exact hf.2.2 (by rw [← hh]; exact hg)
      · exact own_two ha.tms h.log (by decide) g hg hh
  · have e : logOf { M with ends := M.ends ++ [j] } pl = logOf M pl ++ [(M.all.getD j Run.zero, (plAt pl j).ov)] := by
      unfold logOf
      rw [List.map_append]
      rfl
    rw [e]
    exact hl
  · obtain ⟨f1, f2, f3, f4⟩ := h.far i hi
    refine ⟨f1, f2, fun hh => ?_, f4⟩
    rcases hloc i hh with h0 | h0
    · exact f3 h0
    · have := h.mf_lt i (.inr (.inr (.inr (.inl hi))))
      omega
end
theorem MachAt.mono {w : World} {m : Nat} {M : Mach} {gs p : Nat} {lv : Value} {pl : List Pl} {Fs : Nat → Prop} {N N' : Nat} (h : MachAt w m M gs p lv pl Fs N) (hN : N ≤ N') : MachAt w m M gs p lv pl Fs N' :=
  ⟨h.row, h.ses, h.sto.mono hN, h.len, h.act, h.dst, h.log, h.far⟩
theorem MF.setLog {m gs : Nat} {lv lv' : Value} {pl : List Pl} {Fs Fs' : Nat → Prop} {H : Nat} (hloc : ∀ g, lv'.ownBlock = some g → lv.ownBlock = some g ∨ H ≤ g) (hF : ∀ i, Fs' i → Fs i ∨ H ≤ i) (i : Nat) (hi : MF m gs lv' pl Fs' i) : MF m gs lv pl Fs i ∨ H ≤ i := by
  rcases hi with h | h | h | h | h
  · exact .inl (.inl h)
  · exact .inl (.inr (.inl h))
  · exact (hloc i h).imp (fun h => .inr (.inr (.inl h))) id
  · exact (hF i h).imp (fun h => .inr (.inr (.inr (.inl h)))) id
  · exact .inl (.inr (.inr (.inr (.inr h))))
theorem own_map_ne {α : Type} {w : World} {b n : Nat} {f : ByteArray → Option Value} {base : Nat} {e : TypeId} {size : Nat} {fc : α → List Value} {v : Value} {xs : List α} (h : MAt Try.prog 9 w b n f) (ho : Own w base e size fc v xs) (g : Nat) (hg : v.ownBlock = some g) : g ≠ b := by
  rcases ho.cases with ⟨rfl, -⟩ | ⟨g', cap, rest, rfl, -, -, -, hr⟩
  · simp [Value.ownBlock] at hg
  · have e : g' = g := by simpa [Value.ownBlock] using hg
    subst e
    exact h.ne hr
theorem MachAt.map_far {w : World} {m : Nat} {M : Mach} {gs p : Nat} {lv : Value} {pl : List Pl} {Fs : Nat → Prop} {N b n : Nat} {f : ByteArray → Option Value} (h : MachAt w m M gs p lv pl Fs N) (hm : MAt Try.prog 9 w b n f) (hF : ¬ Fs b) (i : Nat) (hi : MF m gs lv pl Fs i) : i ≠ b := by
  rcases hi with rfl | rfl | hi | hi | ⟨k, q, hk, hi⟩
  · exact hm.ne h.row
  · exact hm.ne h.ses
  · exact own_map_ne hm h.log i hi
  · exact fun e => hF (e ▸ hi)
  · obtain ⟨r, -, ha⟩ := h.at hk
    rcases hi with rfl | hi | hi
    · exact hm.ne ha.row
    · exact own_map_ne hm ha.ops i hi
    · exact own_map_ne hm ha.tms i hi
/-- A version is put into the store, if it is taken. -/
def play1 (s : Store2) (k : ByteArray) (v : Ver) : Store2 := if refuse k v (s.2 k) = 0 then (s.1 + 1, upd s.2 k (s.2 k ++ [v])) else s
theorem install_play (F : Nat → Prop) (p N : Nat) (s : Store2) (k : ByteArray) (v : Ver) (w : World) (h : SAt F w p s.1 N s.2) (hk : k.size ≤ maxLen) (hN : N < 3000000000000) :
    Calls Try.prog 48 #[.pointer (some ⟨p, 0, none⟩), .string k, .agg #[.int .i64 v.commit, .int .i64 v.writer, .bool v.found, .string v.value]] w fun e w' => e = .returned (.int .i64 (refuse k v (s.2 k))) ∧ ∃ F', SAt F' w' p (play1 s k v).1 (N + 1) (play1 s k v).2 ∧ (∀ i, F' i → F i ∨ w.heap.size ≤ i) ∧ Turn F w w' := by
  refine (install_any F p s.1 N s.2 k v w h hk hN).mono fun e w' hp => ?_
  unfold InstAll at hp
  obtain ⟨he, F', hs, hr⟩ := hp
  refine ⟨he, F', ?_, hr⟩
  unfold play1
  split
  · rename_i h0
    rw [if_pos h0, if_pos h0] at hs
    exact hs
  · rename_i h0
    rw [if_neg h0, if_neg h0] at hs
    exact hs
/-- The version that a transaction leaves of a key. -/
def leaves (c : Int) (j : Nat) (r : Run) (k : ByteArray) : Ver := ⟨c, j, (lastV r k).1.found, (lastV r k).1.value⟩
/-- The store behind the first n operations. -/
def instN (st : Store2) (c : Int) (j : Nat) (r : Run) : Nat → Store2
  | 0 => st
  | i + 1 =>
    match r.ops[i]? with
    | none => instN st c j r i
    | some o => if o.kind = 1 then instN st c j r i else if (r.ops.take i).any (wrote o.key) = true then instN st c j r i else play1 (instN st c j r i) o.key (leaves c j r o.key)
/-- How often the first n operations wrote a key. -/
def countN (r : Run) (k : ByteArray) (i : Nat) : Nat := ((r.ops.take i).filter (wrote k)).length
def doneF (r : Run) (i : Nat) (k : ByteArray) : Option Value := if countN r k i = 0 then none else some (.int .i64 (countN r k i))
/-- The machine behind the end of session s' transaction j. -/
def finF (M : Mach) (s j : Nat) (b : Bool) : Mach :=
  { M with
    sess := M.sess.set s (none, (M.sess.getD s (none, 0)).2)
    all := M.all.set j { M.all.getD j Run.zero with fin := M.clock, ret := M.clock, status := if b then 1 else 0 }
    st := if b then instN M.st M.clock j (M.all.getD j Run.zero) (M.all.getD j Run.zero).ops.length else M.st
    ends := M.ends ++ [j] }
theorem countN_step {r : Run} {i : Nat} {o : MOp} (h : r.ops[i]? = some o) (k : ByteArray) : countN r k (i + 1) = countN r k i + if wrote k o = true then 1 else 0 := by
  unfold countN
  rw [List.take_add_one, h, Option.toList_some, List.filter_append, List.length_append, List.filter_cons]
  split <;> simp
theorem countN_no {r : Run} {i : Nat} {o : MOp} (h : r.ops[i]? = some o) {k : ByteArray} (hw : wrote k o = false) : countN r k (i + 1) = countN r k i := by
  rw [countN_step h, if_neg (by simp [hw])]
  rfl
theorem countN_yes {r : Run} {i : Nat} {o : MOp} (h : r.ops[i]? = some o) {k : ByteArray} (hw : wrote k o = true) : countN r k (i + 1) = countN r k i + 1 := by
  rw [countN_step h, if_pos hw]
theorem countN_le (r : Run) (k : ByteArray) (i : Nat) : countN r k i ≤ i := Nat.le_trans (List.length_filter_le _ _) (by rw [List.length_take]; omega)
theorem countN_zero {r : Run} {k : ByteArray} {i : Nat} : (r.ops.take i).any (wrote k) = false ↔ countN r k i = 0 := by
  unfold countN
  rw [List.length_eq_zero_iff, List.filter_eq_nil_iff, List.any_eq_false]
theorem instN_read {st : Store2} {c : Int} {j : Nat} {r : Run} {i : Nat} {o : MOp} (h : r.ops[i]? = some o) (hk : o.kind = 1) : instN st c j r (i + 1) = instN st c j r i := by
  show (match r.ops[i]? with | none => _ | some o => _) = _
  rw [h]
  exact if_pos hk
theorem instN_again {st : Store2} {c : Int} {j : Nat} {r : Run} {i : Nat} {o : MOp} (h : r.ops[i]? = some o) (hk : o.kind ≠ 1) (hc : countN r o.key i ≠ 0) : instN st c j r (i + 1) = instN st c j r i := by
  show (match r.ops[i]? with | none => _ | some o => _) = _
  rw [h]
  show (if _ then _ else if _ then _ else _) = _
  rw [if_neg hk, if_pos]
  cases e : (r.ops.take i).any (wrote o.key) with
  | true => rfl
  | false => exact absurd (countN_zero.1 e) hc
theorem instN_first {st : Store2} {c : Int} {j : Nat} {r : Run} {i : Nat} {o : MOp} (h : r.ops[i]? = some o) (hk : o.kind ≠ 1) (hc : countN r o.key i = 0) : instN st c j r (i + 1) = play1 (instN st c j r i) o.key (leaves c j r o.key) := by
  show (match r.ops[i]? with | none => _ | some o => _) = _
  rw [h]
  show (if _ then _ else if _ then _ else _) = _
  rw [if_neg hk, if_neg (by rw [countN_zero.2 hc]; simp)]

end Go.Proofs.Ytfodagidmdbmlaa
