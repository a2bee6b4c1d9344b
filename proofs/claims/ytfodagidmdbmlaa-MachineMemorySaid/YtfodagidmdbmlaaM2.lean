/- The machine in memory; form and refuse. -/
import Derived.Test.YtfodagidmdbmlaaM1
namespace Go.Proofs.Ytfodagidmdbmlaa
set_option linter.unusedVariables false
set_option linter.unusedSimpArgs false
open Go.RowKit

/-- A step. -/
structure MStep where
  kind : Int
  session : Int
  gap : Int
  key : ByteArray
  value : ByteArray
def MStep.cells (s : MStep) : List Value := [.int .i64 s.kind, .int .i64 s.session, .int .i64 s.gap, .string s.key, .string s.value]
def Run.zero : Run := ⟨0, 0, 0, 0, 0, 0, 0, [], []⟩
abbrev Store2 := Nat × (ByteArray → List Ver)
/-- The machine: its transactions as they were begun, which of them each session has under way and how many it began, and the order of the ends. -/
structure Mach where
  flaw : Int
  clock : Int
  sess : List (Option Nat × Int)
  st : Store2
  all : List Run
  ends : List Nat
def plAt (pl : List Pl) (i : Nat) : Pl := pl.getD i ⟨0, .slice none 0 0, .slice none 0 0⟩
def sessC (pl : List Pl) (s : Option Nat × Int) : List Value := [.pointer (s.1.map fun i => ⟨(plAt pl i).b, 0, none⟩), .int .i64 s.2]
theorem sessC_len (pl : List Pl) (s : Option Nat × Int) : (sessC pl s).length = 2 := rfl
def sliceOf (v : Value) : Value := match v with | .slice a n c => .slice a n c | _ => .slice none 0 0
def logC (x : Run × Value) : List Value := txnC x.1 (sliceOf x.2)
def rowM (M : Mach) (gs p : Nat) (lv : Value) : List Value := [.int .i64 M.flaw, .int .i64 M.clock, .int .i64 M.all.length, .slice (some ⟨gs, 0, none⟩) M.sess.length M.sess.length, .pointer (some ⟨p, 0, none⟩), lv]
def logOf (M : Mach) (pl : List Pl) : List (Run × Value) := M.ends.map fun i => (M.all.getD i Run.zero, (plAt pl i).ov)
/-- The machine in memory. -/
structure MachAt (w : World) (m : Nat) (M : Mach) (gs p : Nat) (lv : Value) (pl : List Pl) (Fs : Nat → Prop) (N : Nat) : Prop where
  row : RowAt w m 73 (rowM M gs p lv)
  ses : RowAt w gs 78 (M.sess.flatMap (sessC pl))
  sto : SAt Fs w p M.st.1 N M.st.2
  len : pl.length = M.all.length
  act : ∀ (i : Nat) (r : Run) (q : Pl), M.all[i]? = some r → pl[i]? = some q → AAt w r q i
  dst : ∀ (i j : Nat) (q q' : Pl), i ≠ j → pl[i]? = some q → pl[j]? = some q' → q.b ≠ q'.b ∧ (∀ g, q.ov.ownBlock = some g → q'.ov.ownBlock ≠ some g) ∧ ∀ g, q.sv.ownBlock = some g → q'.sv.ownBlock ≠ some g
  log : Own w 0 55 8 logC lv (logOf M pl)
  far : ∀ i, Fs i → i ≠ m ∧ i ≠ gs ∧ lv.ownBlock ≠ some i ∧ ∀ (k : Nat) (q : Pl), pl[k]? = some q → i ≠ q.b ∧ q.ov.ownBlock ≠ some i ∧ q.sv.ownBlock ≠ some i
/-- The blocks of the machine. -/
def MF (m gs : Nat) (lv : Value) (pl : List Pl) (Fs : Nat → Prop) (i : Nat) : Prop :=
  i = m ∨ i = gs ∨ lv.ownBlock = some i ∨ Fs i ∨ ∃ (k : Nat) (q : Pl), pl[k]? = some q ∧ (i = q.b ∨ q.ov.ownBlock = some i ∨ q.sv.ownBlock = some i)
theorem MachAt.turn {S : Nat → Prop} {w w' : World} {m : Nat} {M : Mach} {gs p : Nat} {lv : Value} {pl : List Pl} {Fs : Nat → Prop} {N : Nat} (h : MachAt w m M gs p lv pl Fs N) (ht : Turn S w w') (hd : ∀ i, MF m gs lv pl Fs i → ¬ S i) : MachAt w' m M gs p lv pl Fs N :=
  ⟨h.row.turn ht (hd _ (.inl rfl)), h.ses.turn ht (hd _ (.inr (.inl rfl))), h.sto.turn ht (fun i hi => hd _ (.inr (.inr (.inr (.inl hi))))), h.len,
   fun i r q h1 h2 => (h.act i r q h1 h2).turn ht (hd _ (.inr (.inr (.inr (.inr ⟨i, q, h2, .inl rfl⟩))))) (fun g hg => hd _ (.inr (.inr (.inr (.inr ⟨i, q, h2, .inr (.inl hg)⟩))))) (fun g hg => hd _ (.inr (.inr (.inr (.inr ⟨i, q, h2, .inr (.inr hg)⟩))))),
   h.dst, Own.turn h.log ht (fun g hg => hd _ (.inr (.inr (.inl hg)))), h.far⟩
theorem MachAt.below {w w' : World} {m : Nat} {M : Mach} {gs p : Nat} {lv : Value} {pl : List Pl} {Fs : Nat → Prop} {N : Nat} (h : MachAt w m M gs p lv pl Fs N) (hb : Below w.heap.size w w') : MachAt w' m M gs p lv pl Fs N :=
  h.turn (Turn.of_below hb fun _ => False) fun _ _ => id
theorem MachAt.mf_lt {w : World} {m : Nat} {M : Mach} {gs p : Nat} {lv : Value} {pl : List Pl} {Fs : Nat → Prop} {N : Nat} (h : MachAt w m M gs p lv pl Fs N) (i : Nat) (hi : MF m gs lv pl Fs i) : i < w.heap.size := by
  rcases hi with rfl | rfl | hi | hi | ⟨k, q, hk, hi⟩
  · exact h.row.lt
  · exact h.ses.lt
  · exact (Own.base h.log i hi).2
  · obtain ⟨b, n, f, -, -, -, -, -, h6, -⟩ := h.sto
    exact h6 i hi
  · have hlt : k < M.all.length := by
      rw [← h.len]
      exact (List.getElem?_eq_some_iff.1 hk).1
    have ha := h.act k _ q (List.getElem?_eq_getElem hlt) hk
    rcases hi with rfl | hi | hi
    · exact ha.row.lt
    · exact (Own.base ha.ops i hi).2
    · exact (Own.base ha.tms i hi).2
/-- A session's cells. -/
theorem MachAt.sess {w : World} {m : Nat} {M : Mach} {gs p : Nat} {lv : Value} {pl : List Pl} {Fs : Nat → Prop} {N : Nat} (h : MachAt w m M gs p lv pl Fs N) {s : Nat} {x : Option Nat × Int} (hx : M.sess[s]? = some x) :
    w.cell? ⟨gs, s * 2, none⟩ = some (.pointer (x.1.map fun i => ⟨(plAt pl i).b, 0, none⟩)) ∧ w.cell? ⟨gs, s * 2 + 1, none⟩ = some (.int .i64 x.2) := by
  have e : ∀ j, j < 2 → w.cell? ⟨gs, s * 2 + j, none⟩ = (sessC pl x)[j]? := fun j hj => by
    rw [h.ses.cell]
    exact flat_at (sessC_len pl) M.sess s j hj hx
  exact ⟨e 0 (by omega), e 1 (by omega)⟩
/-- The error of a step by itself. -/
def formF (n : Nat) (s : MStep) : Int :=
  if s.kind < 1 ∨ 6 < s.kind then 151 else if s.session < 0 ∨ (n : Int) ≤ s.session then 152 else if s.gap < 0 ∨ 1000 < s.gap then 153
  else if (2 ≤ s.kind ∧ s.kind ≤ 4) ∧ (s.key.size < 1 ∨ 8 < s.key.size) then 130 else if s.kind = 3 ∧ 16 < s.value.size then 157 else 0
/-- The error of a step. -/
def refuseF (M : Mach) (s : MStep) : Int :=
  if formF M.sess.length s ≠ 0 then formF M.sess.length s else
  let now := (M.sess.getD s.session.toNat (none, 0)).1
  if s.kind = 1 ∧ now ≠ none then 155 else if s.kind ≠ 1 ∧ now = none then 156 else if s.kind = 1 ∧ 4096 ≤ M.all.length then 71
  else if (2 ≤ s.kind ∧ s.kind ≤ 4) ∧ 16 ≤ (M.all.getD (now.getD 0) Run.zero).ops.length then 63 else if 1099511627776 < M.clock + 1 + s.gap then 154 else 0
set_option maxRecDepth 100000 in
set_option maxHeartbeats 4000000 in
theorem form_any (m : Nat) (n c : Nat) (A : Option Addr) (s : MStep) (w : World) (h : w.cell? ⟨m, 3, none⟩ = some (.slice A n c)) (hk : s.key.size ≤ maxLen) (hv : s.value.size ≤ maxLen) (hm : m < w.heap.size) :
    Calls Try.prog 44 #[.pointer (some ⟨m, 0, none⟩), .agg #[.int .i64 s.kind, .int .i64 s.session, .int .i64 s.gap, .string s.key, .string s.value]] w fun e w' => e = .returned (.int .i64 (formF n s)) ∧ Below w.heap.size w w' := by
  obtain ⟨kd, se, ga, ky, va⟩ := s
  have hba := (Below.refl w.heap.size w).alloc (Nat.le_refl _) (.cells #[.int .i64 kd, .int .i64 se, .int .i64 ga, .string ky, .string va] 29)
  have rba := RowAt.new w 29 [.int .i64 kd, .int .i64 se, .int .i64 ga, .string ky, .string va]
  have c3 : (w.alloc (.cells #[.int .i64 kd, .int .i64 se, .int .i64 ga, .string ky, .string va] 29)).cell? ⟨m, 3, none⟩ = some (.slice A n c) := by
    rw [World.cell?_of_block (hba.block m hm)]
    exact h
  have d0 := rba.cell 0
  have d1 := rba.cell 1
  have d2 := rba.cell 2
  have d3 := rba.cell 3
  have d4 := rba.cell 4
  simp only [List.getElem?_cons_zero, List.getElem?_cons_succ] at d0 d1 d2 d3 d4
  have HB := Lib.hid hba
  obtain ⟨res, hres⟩ : ∃ z, z = formF n ⟨kd, se, ga, ky, va⟩ := ⟨_, rfl⟩
  rw [← hres]
  have HR := Lib.hid hres
  clear rba hres h
  unfold maxLen at hk hv
  have BD := Lib.hid hba.drew
  have drw : ∀ (j : Nat) v, (w.alloc (.cells #[.int .i64 kd, .int .i64 se, .int .i64 ga, .string ky, .string va] 29)).cell? ⟨w.heap.size, j, none⟩ = some v → (w.alloc (.cells #[.int .i64 kd, .int .i64 se, .int .i64 ga, .string ky, .string va] 29)).drew.cell? ⟨w.heap.size, j, none⟩ = some v := fun _ _ h => h
  have f0 := drw 0 _ d0
  have f2 := drw 2 _ d2
  have f3 := drw 3 _ d3
  have f4 := drw 4 _ d4
  by_cases k1 : kd < 1
  · rw [show res = 151 by rw [HR.out]; unfold formF; rw [if_pos (.inl k1)]]
    go_enter Try.func44, Try.ntmps44
    go_wp2_with fail
    all_goals first | (go_ret; exact ⟨rfl, HB.out⟩) | (exfalso; omega)
  by_cases k2 : 6 < kd
  · rw [show res = 151 by rw [HR.out]; unfold formF; rw [if_pos (.inr k2)]]
    go_enter Try.func44, Try.ntmps44
    go_wp2_with fail
    all_goals first | (go_ret; exact ⟨rfl, HB.out⟩) | (exfalso; omega)
  have q1 : ¬ (kd < 1 ∨ 6 < kd) := by omega
  by_cases s1 : se < 0 ∨ (n : Int) ≤ se
  · rw [show res = 152 by rw [HR.out]; unfold formF; rw [if_neg q1, if_pos s1]]
    clear q1 HR
    rcases s1 with s1 | s1
    · have e1 : decide (se < 0) = true := decide_eq_true s1
      go_enter Try.func44, Try.ntmps44
      go_wp2_with fail
      all_goals go_region
      all_goals go_wp2_with fail
      all_goals go_ret
      all_goals exact ⟨rfl, BD.out⟩
    · have e1 : decide (se < 0) = false := decide_eq_false (by omega)
      have e2 : decide (se ≥ (n : Int)) = true := decide_eq_true (by omega)
      go_enter Try.func44, Try.ntmps44
      go_wp2_with fail
      all_goals go_region
      all_goals go_wp2_with fail
      all_goals go_ret
      all_goals exact ⟨rfl, BD.out⟩
  by_cases g1 : ga < 0 ∨ 1000 < ga
  · rw [show res = 153 by rw [HR.out]; unfold formF; rw [if_neg q1, if_neg s1, if_pos g1]]
    clear q1 HR
    have e1 : decide (se < 0) = false := decide_eq_false (by omega)
    have e2 : decide (se ≥ (n : Int)) = false := decide_eq_false (by omega)
    rcases g1 with g1 | g1
    · go_enter Try.func44, Try.ntmps44
      go_wp2_with fail
      all_goals go_region
      all_goals go_wp2_with fail
      all_goals first | (go_ret; exact ⟨rfl, BD.out⟩) | (exfalso; omega)
    · go_enter Try.func44, Try.ntmps44
      go_wp2_with fail
      all_goals go_region
      all_goals go_wp2_with fail
      all_goals first | (go_ret; exact ⟨rfl, BD.out⟩) | (exfalso; omega)
  have e1 : decide (se < 0) = false := decide_eq_false (by omega)
  have e2 : decide (se ≥ (n : Int)) = false := decide_eq_false (by omega)
  have g2 : ¬ ga < 0 := by omega
  have g3 : ¬ 1000 < ga := by omega
  by_cases y1 : (2 ≤ kd ∧ kd ≤ 4) ∧ (ky.size < 1 ∨ 8 < ky.size)
  · rw [show res = 130 by rw [HR.out]; unfold formF; rw [if_neg q1, if_neg s1, if_neg g1, if_pos y1]]
    clear q1 HR
    obtain ⟨⟨y2, y3⟩, y4⟩ := y1
    have y2' : ¬ kd < 2 := by omega
    have y3' : ¬ 4 < kd := by omega
    rcases y4 with y4 | y4
    · have y5 : (ky.size : Int) < 1 := by omega
      go_enter Try.func44, Try.ntmps44
      go_wp2_with fail
      all_goals go_region
      all_goals go_wp2_with fail
      all_goals first | (go_ret; exact ⟨rfl, BD.out⟩) | (exfalso; omega)
    · have y5 : 8 < (ky.size : Int) := by omega
      go_enter Try.func44, Try.ntmps44
      go_wp2_with fail
      all_goals go_region
      all_goals go_wp2_with fail
      all_goals first | (go_ret; exact ⟨rfl, BD.out⟩) | (exfalso; omega)
  by_cases v1 : kd = 3 ∧ 16 < va.size
  · rw [show res = 157 by rw [HR.out]; unfold formF; rw [if_neg q1, if_neg s1, if_neg g1, if_neg y1, if_pos v1]]
    clear q1 HR
    obtain ⟨rfl, v2⟩ := v1
    have y5 : ¬ (ky.size : Int) < 1 := by omega
    have y6 : ¬ 8 < (ky.size : Int) := by omega
    have v3 : 16 < (va.size : Int) := by omega
    go_enter Try.func44, Try.ntmps44
    go_wp2_with fail
    all_goals go_region
    all_goals go_wp2_with fail
    all_goals first | (go_ret; exact ⟨rfl, BD.out⟩) | (exfalso; omega)
  · rw [show res = 0 by rw [HR.out]; unfold formF; rw [if_neg q1, if_neg s1, if_neg g1, if_neg y1, if_neg v1]]
    clear q1 HR
    by_cases y2 : 2 ≤ kd ∧ kd ≤ 4
    · have y5 : ¬ (ky.size : Int) < 1 := by omega
      have y6 : ¬ 8 < (ky.size : Int) := by omega
      have y2' : ¬ kd < 2 := by omega
      have y3' : ¬ 4 < kd := by omega
      by_cases v2 : kd = 3
      · have v3 : ¬ 16 < (va.size : Int) := by omega
        subst v2
        go_enter Try.func44, Try.ntmps44
        go_wp2_with fail
        all_goals go_region
        all_goals go_wp2_with fail
        all_goals first | (go_ret; exact ⟨rfl, BD.out⟩) | (exfalso; omega)
      · have v4 : (kd == 3) = false := by simpa using v2
        go_enter Try.func44, Try.ntmps44
        go_wp2_with fail
        all_goals go_region
        all_goals go_wp2_with fail
        all_goals first | (go_ret; exact ⟨rfl, BD.out⟩) | (exfalso; omega)
    · have v4 : (kd == 3) = false := by simp; omega
      have v5 : ¬ kd = 3 := by omega
      go_enter Try.func44, Try.ntmps44
      go_wp2_with fail
      all_goals go_region
      all_goals go_wp2_with fail
      all_goals first | (go_ret; exact ⟨rfl, BD.out⟩) | (exfalso; omega)

end Go.Proofs.Ytfodagidmdbmlaa
