/- The machine: its transactions in memory, and what last tells. -/
import Derived.Test.YtfodagidmdbmlaaC5n
namespace Go.Proofs.Ytfodagidmdbmlaa
set_option linter.unusedVariables false
set_option linter.unusedSimpArgs false
open Go.RowKit

/-- An operation. -/
structure MOp where
  kind : Int
  key : ByteArray
  found : Bool
  value : ByteArray
def MOp.zero : MOp := ⟨0, ⟨#[]⟩, false, ⟨#[]⟩⟩
def MOp.cells (o : MOp) : List Value := [.int .i64 o.kind, .string o.key, .bool o.found, .string o.value]
theorem MOp.len (o : MOp) : o.cells.length = 4 := rfl
def intC (i : Int) : List Value := [.int .i64 i]
/-- A transaction: its numbers, its operations and their times. -/
structure Run where
  session : Int
  seq : Int
  start : Int
  fin : Int
  invoke : Int
  ret : Int
  status : Int
  ops : List MOp
  times : List Int
/-- Where a transaction lies. -/
structure Pl where
  b : Nat
  ov : Value
  sv : Value
def txnC (r : Run) (ov : Value) : List Value := [.int .i64 r.session, .int .i64 r.seq, .int .i64 r.start, .int .i64 r.fin, .int .i64 r.invoke, .int .i64 r.ret, .int .i64 r.status, ov]
def actC (r : Run) (q : Pl) (i : Nat) : List Value := [.int .i64 r.session, .int .i64 r.seq, .int .i64 r.start, .int .i64 r.fin, .int .i64 r.invoke, .int .i64 r.ret, .int .i64 r.status, q.ov, q.sv, .int .i64 i]
abbrev OOwn (w : World) (v : Value) (l : List MOp) : Prop := Own w 0 67 4 MOp.cells v l
abbrev IOwn (w : World) (v : Value) (l : List Int) : Prop := Own w 0 3 1 intC v l
/-- One transaction in memory. -/
structure AAt (w : World) (r : Run) (q : Pl) (i : Nat) : Prop where
  row : RowAt w q.b 80 (actC r q i)
  ops : OOwn w q.ov r.ops
  tms : IOwn w q.sv r.times
theorem AAt.turn {S : Nat → Prop} {w w' : World} {r : Run} {q : Pl} {i : Nat} (h : AAt w r q i) (ht : Turn S w w') (h1 : ¬ S q.b) (h2 : ∀ g, q.ov.ownBlock = some g → ¬ S g) (h3 : ∀ g, q.sv.ownBlock = some g → ¬ S g) : AAt w' r q i :=
  ⟨h.row.turn ht h1, Own.turn h.ops ht h2, Own.turn h.tms ht h3⟩
theorem AAt.below {w w' : World} {r : Run} {q : Pl} {i : Nat} (h : AAt w r q i) (hb : Below w.heap.size w w') : AAt w' r q i :=
  ⟨h.row.below hb, Own.below h.ops hb, Own.below h.tms hb⟩
theorem own_op {w : World} {base : Nat} {A : Option Addr} {n cap : Nat} {l : List MOp} (h : Own w base 67 4 MOp.cells (.slice A n cap) l) {i : Nat} (hi : i < l.length) :
    ∃ g x, A = some ⟨g, 0, none⟩ ∧ l[i]? = some x ∧ w.cell? ⟨g, i * 4, none⟩ = some (.int .i64 x.kind) ∧ w.cell? ⟨g, i * 4 + 1, none⟩ = some (.string x.key) ∧ w.cell? ⟨g, i * 4 + 2, none⟩ = some (.bool x.found) ∧ w.cell? ⟨g, i * 4 + 3, none⟩ = some (.string x.value) := by
  rcases h.cases with ⟨h, rfl⟩ | ⟨g, cap, rest, e1, h2, h3, h4, h5⟩
  · simp at hi
  · injection e1 with e1 e2 e3
    have hx : l[i]? = some l[i] := List.getElem?_eq_getElem hi
    have e : ∀ j, j < 4 → w.cell? ⟨g, i * 4 + j, none⟩ = (l[i]).cells[j]? := fun j hj => by
      rw [h5.cell, List.getElem?_append_left (by rw [flat_length MOp.len]; omega)]
      exact flat_at MOp.len l i j hj hx
    exact ⟨g, l[i], e1, hx, e 0 (by omega), e 1 (by omega), e 2 (by omega), e 3 (by omega)⟩
theorem own_int {w : World} {base : Nat} {A : Option Addr} {n cap : Nat} {l : List Int} (h : Own w base 3 1 intC (.slice A n cap) l) {i : Nat} (hi : i < l.length) :
    ∃ g x, A = some ⟨g, 0, none⟩ ∧ l[i]? = some x ∧ w.cell? ⟨g, i, none⟩ = some (.int .i64 x) := by
  rcases h.cases with ⟨h, rfl⟩ | ⟨g, cap, rest, e1, h2, h3, h4, h5⟩
  · simp at hi
  · injection e1 with e1 e2 e3
    have hx : l[i]? = some l[i] := List.getElem?_eq_getElem hi
    have e : w.cell? ⟨g, i * 1 + 0, none⟩ = (intC l[i])[0]? := by
      rw [h5.cell, List.getElem?_append_left (by rw [flat_length (f := intC) (n := 1) (fun _ => rfl)]; omega)]
      exact flat_at (f := intC) (n := 1) (fun _ => rfl) l i 0 (by omega) hx
    rw [Nat.mul_one, Nat.add_zero] at e
    exact ⟨g, l[i], e1, hx, e⟩
theorem own_forms {α : Type} {w : World} {base : Nat} {e : TypeId} {size : Nat} {f : α → List Value} {v : Value} {xs : List α} (h : Own w base e size f v xs) : ∃ A c, v = .slice A xs.length c := by
  rcases h.cases with ⟨rfl, rfl⟩ | ⟨g, cap, rest, rfl, -⟩
  · exact ⟨none, 0, rfl⟩
  · exact ⟨_, _, rfl⟩
theorem IOwn.lt {w : World} {g n cap : Nat} {l : List Int} (h : IOwn w (.slice (some ⟨g, 0, none⟩) n cap) l) (_ : True = True) : ∃ cs, RowAt w g 3 cs := by
  rcases h.cases with ⟨h, -⟩ | ⟨g', c', rest, e1, h2, h3, h4, h5⟩
  · injection h with h; cases h
  · injection e1 with e1 e2 e3
    injection e1 with e1
    injection e1 with e1
    subst e1
    exact ⟨_, h5⟩
/-- Three results, the first a struct. -/
theorem results_ctt {P : Program} {fn : Func} {p u v : Tmp} {ty : TypeId} (h : fn.results = #[.cell p ty, .tmp u, .tmp v]) (tmps : Array Value) {w : World} {g : Nat} {T : TypeId} {cs : List Value} {d : TypeDesc}
    (hp : tmps.getD p undef = .pointer (some ⟨g, 0, none⟩)) (hg : RowAt w g T cs) (hu : P.underlying ty = some d) (hd : (match d with | .struct _ | .array _ _ => true | _ => false) = true)
    (hi : (P.info? ty).map (·.size) = some cs.length) : (results fn tmps).run P w = .ok (.tuple #[.agg cs.toArray, tmps.getD u undef, tmps.getD v undef]) w := by
  have hp' : tmps[p]?.getD undef = .pointer (some ⟨g, 0, none⟩) := by simpa using hp
  simp [results, h, hp', asAddr, load_row hg hu hd hi]
/-- The last of the first n operations that wrote or deleted a key, counted from 1; 0: none. -/
def wrote (k : ByteArray) (o : MOp) : Bool := !(o.kind == 1) && (o.key.toList == k.toList)
def leftN (ops : List MOp) (k : ByteArray) : Nat → Nat
  | 0 => 0
  | n + 1 => if (match ops[n]? with | some o => wrote k o | none => false) = true then n + 1 else leftN ops k n
theorem leftN_le (ops : List MOp) (k : ByteArray) (n : Nat) : leftN ops k n ≤ n := by
  induction n with
  | zero => exact Nat.le_refl _
  | succ n ih =>
    have : leftN ops k (n + 1) = n + 1 ∨ leftN ops k (n + 1) = leftN ops k n := by
      by_cases h : (match ops[n]? with | some o => wrote k o | none => false) = true
      · exact .inl (if_pos h)
      · exact .inr (if_neg h)
    omega
theorem leftN_yes {ops : List MOp} {k : ByteArray} {n : Nat} {o : MOp} (ho : ops[n]? = some o) (h : wrote k o = true) : leftN ops k (n + 1) = n + 1 := by
  unfold leftN
  rw [ho]
  exact if_pos h
theorem leftN_no {ops : List MOp} {k : ByteArray} {n : Nat} {o : MOp} (ho : ops[n]? = some o) (h : wrote k o = false) : leftN ops k (n + 1) = leftN ops k n := by
  show (if _ then _ else _) = _
  rw [ho]
  exact if_neg (by simp [h])
def lastV (r : Run) (k : ByteArray) : MOp × Int × Bool :=
  match leftN r.ops k r.ops.length with
  | 0 => (MOp.zero, 0, false)
  | i + 1 => (r.ops.getD i MOp.zero, r.times.getD i 0, true)
def lastR (x : MOp × Int × Bool) : Value := .tuple #[.agg #[.int .i64 x.1.kind, .string x.1.key, .bool x.1.found, .string x.1.value], .int .i64 x.2.1, .bool x.2.2]
set_option maxRecDepth 100000 in
set_option maxHeartbeats 4000000 in
theorem last_any (r : Run) (q : Pl) (i : Nat) (k : ByteArray) (w : World) (h : AAt w r q i) (hl : r.ops.length ≤ 16) (ht : r.times.length = r.ops.length) :
    Calls Try.prog 45 #[.pointer (some ⟨q.b, 0, none⟩), .string k] w fun e w' => e = .returned (lastR (lastV r k)) ∧ Below w.heap.size w w' := by
  have hba := (Below.refl w.heap.size w).alloc (Nat.le_refl _) (.cells #[.int .i64 0, .string ⟨#[]⟩, .bool false, .string ⟨#[]⟩] 67)
  have rba := RowAt.new w 67 MOp.zero.cells
  obtain ⟨b, ov, sv⟩ := q
  obtain ⟨A, c, rfl⟩ := own_forms h.ops
  obtain ⟨A2, c2, rfl⟩ := own_forms h.tms
  have m1 := h.below hba
  obtain ⟨n, hn⟩ : ∃ n, n = r.ops.length := ⟨_, rfl⟩
  rw [← hn] at hl ht m1
  rw [ht] at m1
  have a7 := m1.row.cell 7
  simp only [actC, List.getElem?_cons_zero, List.getElem?_cons_succ] at a7
  have M1 := Lib.hid m1
  have HN := Lib.hid hn
  have HT := Lib.hid ht
  have RB := Lib.hid rba
  have HB := Lib.hid hba
  clear h hba rba m1 hn ht
  go_enter Try.func45, Try.ntmps45
  go_wp2_with fail
  go_loopw [7] (fun i wr => ∃ j : Nat, j ≤ n ∧ i = .int .i64 ((j : Int) - 1) ∧ Hid (leftN r.ops k n = leftN r.ops k j) ∧ Hid (Below (w.alloc (.cells #[.int .i64 0, .string ⟨#[]⟩, .bool false, .string ⟨#[]⟩] 67)).heap.size (w.alloc (.cells #[.int .i64 0, .string ⟨#[]⟩, .bool false, .string ⟨#[]⟩] 67)) wr)) (fun i _ => (intOf i + 1).toNat)
  case atStart => exact ⟨n, by omega, rfl, rfl, Below.refl _ _⟩
  case round =>
    obtain ⟨j, hj, rfl, HJ, HW⟩ := hrel
    cases j with
    | succ j =>
      obtain ⟨g, x, rfl, hx, x0, x1, x2, x3⟩ := own_op (Own.below M1.out.ops HW.out) (i := j) (by rw [← HN.out]; omega)
      have e1 : ((↑(j + 1) : Int) - 1) = (j : Int) := by omega
      rw [e1]
      have HX := Lib.hid hx
      have B1 := Lib.hid (HB.out.trans (HW.out.mono HB.out.size))
      have hbo := (Below.refl wr.heap.size wr).alloc (Nat.le_refl _) (.cells #[.int .i64 x.kind, .string x.key, .bool x.found, .string x.value] 67)
      have rbo := RowAt.new wr 67 x.cells
      have o0 := rbo.cell 0
      have o1 := rbo.cell 1
      have o2 := rbo.cell 2
      have o3 := rbo.cell 3
      simp only [MOp.cells, List.getElem?_cons_zero, List.getElem?_cons_succ] at o0 o1 o2 o3
      have a7 := (M1.out.below HW.out).row.cell 7
      simp only [actC, List.getElem?_cons_zero, List.getElem?_cons_succ] at a7
      have hj1 : (0 : Int) ≤ (j : Int) := by omega
      have hj2 : (j : Int) < (n : Int) := by omega
      have hjd : decide ((j : Int) ≥ 0) = true := decide_eq_true (by omega)
      clear hx
      by_cases hwr : wrote k x = true
      · have hk1 : (x.kind == 1) = false := by unfold wrote at hwr; cases h : (x.kind == 1) <;> simp_all
        have hk2 : (x.key.toList == k.toList) = true := by unfold wrote at hwr; cases h : (x.key.toList == k.toList) <;> simp_all
        have hk3 : ¬ x.kind = 1 := by simpa using hk1
        obtain ⟨g2, y, rfl, hy, y0⟩ := own_int (Own.below (Own.below M1.out.tms HW.out) hbo) (i := j) (by rw [HT.out]; omega)
        have a8 := ((M1.out.below HW.out).below hbo).row.cell 8
        simp only [actC, List.getElem?_cons_zero, List.getElem?_cons_succ] at a8
        have HY := Lib.hid hy
        clear hy
        have o0' := rbo.cell 0
        have R1 := Lib.hid ((RB.out.below HW.out).below hbo)
        have cc := R1.out.cell
        have ff := R1.out.frozen
        simp only [MOp.cells, MOp.zero] at cc
        have n1 : w.heap.size ≠ b := fun e => by have := RB.out.ne (M1.out.row) (by decide); exact this e
        have n2 : w.heap.size ≠ g2 := fun e => by
          obtain ⟨cs, hcs⟩ := IOwn.lt M1.out.tms rfl
          exact RB.out.ne hcs (by decide) e
        have n3 : w.heap.size ≠ wr.heap.size := fun e => by have := (RB.out.below HW.out).lt; omega
        go_wp2_with fail
        go_region
        go_wp2_with fail
        have r9 := RowAt.drew ((R1.out.wset x.cells 0).congr (cs' := x.cells) rfl)
        refine bodyPost_ret (results_ctt (T := 67) Try.results45 _ rfl r9 Try.underlying67 rfl (by kernel_rfl)) rfl ⟨?_, ?_⟩
        · have e2 : lastV r k = (x, y, true) := by
            unfold lastV
            rw [← HN.out, HJ.out, leftN_yes HX.out hwr]
            show (r.ops.getD j MOp.zero, r.times.getD j 0, true) = _
            rw [List.getD_eq_getElem?_getD, List.getD_eq_getElem?_getD, HX.out, HY.out]
            rfl
          rw [e2]
          rfl
        · exact ((((((B1.out.trans (hbo.mono B1.out.size)).setCell (Nat.le_refl _) _).setCell (Nat.le_refl _) _).setCell (Nat.le_refl _) _).setCell (Nat.le_refl _) _)).drew
      · have hwf : wrote k x = false := by simpa using hwr
        have HE := Lib.hid (HJ.out.trans (leftN_no HX.out hwf))
        have HWN := Lib.hid (HW.out.trans (hbo.mono HW.out.size))
        by_cases hk3 : x.kind = 1
        · rw [hk3] at HWN
          go_wp2_with fail
          exact ⟨⟨j, by omega, rfl, HE, HWN⟩, by show ((j : Int) - 1 + 1).toNat < ((j : Int) + 1).toNat; omega⟩
        · have hk2 : (x.key.toList == k.toList) = false := by
            unfold wrote at hwf
            have : (x.kind == 1) = false := by simpa using hk3
            rw [this] at hwf
            simpa using hwf
          go_wp2_with fail
          exact ⟨⟨j, by omega, rfl, HE, HWN⟩, by show ((j : Int) - 1 + 1).toNat < ((j : Int) + 1).toNat; omega⟩
    | zero =>
      have e1 : ((↑(0 : Nat) : Int) - 1) = -1 := by omega
      rw [e1]
      have hd : decide ((-1 : Int) ≥ 0) = false := by decide
      have R1 := Lib.hid (RB.out.below HW.out)
      have cc := R1.out.cell
      have ff := R1.out.frozen
      simp only [MOp.cells, MOp.zero] at cc
      have B1 := Lib.hid (HB.out.trans (HW.out.mono HB.out.size))
      go_wp2
      have r9 := (R1.out.wset MOp.zero.cells 0).congr (cs' := MOp.zero.cells) rfl
      refine bodyPost_ret (results_ctt (T := 67) Try.results45 _ rfl r9 Try.underlying67 rfl (by kernel_rfl)) rfl ⟨?_, ?_⟩
      · have e2 : lastV r k = (MOp.zero, 0, false) := by
          unfold lastV
          rw [← HN.out, HJ.out]
          rfl
        rw [e2]
        rfl
      · exact (((B1.out.setCell (Nat.le_refl _) _).setCell (Nat.le_refl _) _).setCell (Nat.le_refl _) _).setCell (Nat.le_refl _) _

end Go.Proofs.Ytfodagidmdbmlaa
