/- Logs that are marked; and what the log of more steps begins with. -/
import Derived.Test.YtfodagidmdbmlaaNO
import Derived.Test.YtfodagidmdbmlaaMk
namespace Go.Proofs.Ytfodagidmdbmlaa
set_option linter.unusedVariables false
set_option linter.unusedSimpArgs false
open Go.RowKit

/-- A step's log begins with the one ahead of it. -/
theorem doF_log {M : Mach} (h : MOK M) (s : MStep) : ∃ l, runsOf (doF M s).1 = runsOf M ++ l := by
  have same : ∀ M' : Mach, M'.ends = M.ends → (∀ i ∈ M.ends, M'.all.getD i Run.zero = M.all.getD i Run.zero) → ∃ l, runsOf M' = runsOf M ++ l := fun M' e1 e2 => ⟨[], by
    unfold runsOf
    rw [e1, List.append_nil]
    exact List.map_congr_left e2⟩
  by_cases hr : refuseF M s = 0
  · obtain ⟨k, ht⟩ := taken hr
    have es : s.session.toNat = k := by rw [ht.ses]; exact Int.toNat_natCast k
    by_cases e1 : s.kind = 1
    · rw [doF_1 hr e1 es rfl]
      refine same _ rfl fun i hi => ?_
      have := h.endl i hi
      rw [List.getD_eq_getElem?_getD, List.getElem?_append_left this, ← List.getD_eq_getElem?_getD]
    · obtain ⟨j, q, r, hx, hj, hrs, hcj, hcr, hops⟩ := taken_some h.inv hr e1 ht
      have hne := h.live k j q hx
      have put : ∀ r', ∃ l, runsOf (putR (tick M s.gap) j r') = runsOf M ++ l := fun r' => same _ rfl fun i hi => getD_set i fun e => hne (e ▸ hi)
      have fin : ∀ b, ∃ l, runsOf (finF (tick M s.gap) k j b) = runsOf M ++ l := fun b => ⟨[(finF (tick M s.gap) k j b).all.getD j Run.zero], by
        unfold runsOf
        show List.map _ (M.ends ++ [j]) = _
        rw [List.map_append]
        congr 1
        exact List.map_congr_left fun i hi => getD_set i fun e => hne (e ▸ hi)⟩
      by_cases e2 : s.kind = 2
      · rw [doF_2 hr e2 es hcj hcr rfl]; exact put _
      by_cases e3 : s.kind = 3
      · rw [doF_3 hr e3 es hcj hcr]; exact put _
      by_cases e4 : s.kind = 4
      · rw [doF_4 hr e4 es hcj hcr]; exact put _
      by_cases e5 : s.kind = 5
      · rw [doF_5 hr e5 es hcj hcr rfl]; exact fin _
      · rw [doF_6 hr (by have := ht.kind; omega) es hcj]; exact fin _
  · rw [doF_no hr]; exact same _ rfl fun i hi => rfl
theorem closeN_log {M : Mach} (h : MOK M) : ∀ i, ∃ l, runsOf (closeN M i) = runsOf M ++ l
  | 0 => ⟨[], (List.append_nil _).symm⟩
  | i + 1 => by
    obtain ⟨l, hl⟩ := closeN_log h i
    unfold closeN
    split
    · obtain ⟨l', hl'⟩ := doF_log (closeN_ok h i) (aK i)
      exact ⟨l ++ l', by rw [hl', hl, List.append_assoc]⟩
    · exact ⟨l, hl⟩
theorem emit_log (n : Nat) (f : Int) (hn : n ≤ 64) (xs : List MStep) : ∃ l, runsOf (emitM n f xs) = runsOf (playF (machN n f) xs) ++ l := closeN_log (playF_ok xs (machN_ok hn f)) n
theorem runs_ops {M : Mach} (h : MOK M) : ∀ r ∈ runsOf M, r.ops.length ≤ 16 := by
  intro r hr
  obtain ⟨i, hi, rfl⟩ := List.mem_map.1 hr
  have hl := h.endl i hi
  have e : M.all[i]? = some (M.all.getD i Run.zero) := by rw [List.getD_eq_getElem?_getD, List.getElem?_eq_getElem hl]; rfl
  exact (h.inv.ops i _ e).1
/-- Steps are the same. -/
def stEq (a b : MStep) : Bool := (a.kind == b.kind) && ((a.session == b.session) && ((a.gap == b.gap) && ((a.key.toList == b.key.toList) && (a.value.toList == b.value.toList))))
theorem eqSt (d : Nat) (w : World) (x0 y0 x1 y1 x2 y2 : Int) (x3 y3 x4 y4 : ByteArray) :
    (Op.equalIn (d + 2) 29 (.agg #[.int .i64 x0, .int .i64 x1, .int .i64 x2, .string x3, .string x4]) (.agg #[.int .i64 y0, .int .i64 y1, .int .i64 y2, .string y3, .string y4])).run Try.prog w = .ok (stEq ⟨x0, x1, x2, x3, x4⟩ ⟨y0, y1, y2, y3, y4⟩) w := by
  refine eqStruct_of Try.underlying29 (by kernel_rfl) ?_
  refine eqField_cons (by rfl) (by go_simp; rfl) (by go_simp; rfl) (by go_simp) ?_
  refine eqField_cons (by rfl) (by go_simp; rfl) (by go_simp; rfl) (by go_simp) ?_
  refine eqField_cons (by rfl) (by go_simp; rfl) (by go_simp; rfl) (by go_simp) ?_
  refine eqField_cons (by rfl) (by go_simp; rfl) (by go_simp; rfl) (by go_simp) ?_
  exact eqField_last (by rfl) (by go_simp; rfl) (by go_simp; rfl) (by go_simp)
theorem stEq_self (a : MStep) : stEq a a = true := by unfold stEq; simp
theorem zip_set {α β : Type} : ∀ (l : List α) (l' : List β) (i : Nat) (a : α) (b : β), (l.set i a).zip (l'.set i b) = (l.zip l').set i (a, b)
  | [], l', i, a, b => by simp
  | x :: l, [], i, a, b => by simp
  | x :: l, y :: l', 0, a, b => rfl
  | x :: l, y :: l', i + 1, a, b => by
    show (x, y) :: (l.set i a).zip (l'.set i b) = (x, y) :: (l.zip l').set i (a, b)
    rw [zip_set l l' i a b]
theorem set_at {α : Type} : ∀ (l : List α) (i : Nat) (a : α), l[i]? = some a → l.set i a = l
  | [], i, a, h => rfl
  | x :: l, 0, a, h => by simp at h; rw [h]; rfl
  | x :: l, i + 1, a, h => by
    show x :: l.set i a = x :: l
    rw [set_at l i a (by simpa using h)]
theorem flat_like {α : Type} {f : α → List Value} {xs : List α} {i : Nat} {x y : α} (hx : xs[i]? = some x) (e : f y = f x) : (xs.set i y).flatMap f = xs.flatMap f := by
  rw [List.flatMap_def, List.flatMap_def, List.map_set, e, ← List.map_set, set_at xs i x hx]
theorem LogAt.turn {B : Nat} {S : Nat → Prop} {w w' : World} {v : Value} {rs : List Run} {ovs : List Value} (h : LogAt B w v rs ovs) (ht : Turn S w w') (h1 : ∀ g, v.ownBlock = some g → ¬ S g)
    (h2 : ∀ (t : Nat) (ov : Value), ovs[t]? = some ov → ∀ g, ov.ownBlock = some g → ¬ S g) : LogAt B w' v rs ovs :=
  ⟨Own.turn h.row ht h1, h.len, fun t ov r e1 e2 => Own.turn (h.ops t ov r e1 e2) ht (h2 t ov e1), h.dst⟩
/-- A log all of whose blocks are of S. -/
structure LogIn (S : Nat → Prop) (w : World) (v : Value) (rs : List Run) (ovs : List Value) : Prop where
  log : LogAt 0 w v rs ovs
  blk : ∀ g, v.ownBlock = some g → S g
  obl : ∀ (t : Nat) (ov : Value), ovs[t]? = some ov → ∀ g, ov.ownBlock = some g → S g
theorem LogIn.turn {S S' : Nat → Prop} {w w' : World} {v : Value} {rs : List Run} {ovs : List Value} (h : LogIn S w v rs ovs) (ht : Turn S' w w') (hs : ∀ q, S q → ¬ S' q) : LogIn S w' v rs ovs :=
  ⟨h.log.turn ht (fun g e => hs g (h.blk g e)) (fun t ov e g e2 => hs g (h.obl t ov e g e2)), h.blk, h.obl⟩
theorem LogIn.below {S : Nat → Prop} {w w' : World} {v : Value} {rs : List Run} {ovs : List Value} (h : LogIn S w v rs ovs) (hb : Below w.heap.size w w') : LogIn S w' v rs ovs := ⟨h.log.below hb, h.blk, h.obl⟩
theorem LogIn.mono {S S' : Nat → Prop} {w : World} {v : Value} {rs : List Run} {ovs : List Value} (h : LogIn S w v rs ovs) (hs : ∀ q, S q → S' q) : LogIn S' w v rs ovs :=
  ⟨h.log, fun g e => hs g (h.blk g e), fun t ov e g e2 => hs g (h.obl t ov e g e2)⟩
theorem LogAt.inn {B : Nat} {w : World} {v : Value} {rs : List Run} {ovs : List Value} (h : LogAt B w v rs ovs) : LogIn (fun q => B ≤ q ∧ q < w.heap.size) w v rs ovs :=
  ⟨h.mono (Nat.zero_le _), fun g e => Own.base h.row g e, fun t ov e g e2 => by
    have hl : t < rs.length := by rw [← h.len]; exact (List.getElem?_eq_some_iff.1 e).1
    exact Own.base (h.ops t ov _ e (List.getElem?_eq_getElem hl)) g e2⟩
/-- An operation of an entry is marked. -/
theorem LogIn.mark {S : Nat → Prop} {w : World} {v : Value} {rs : List Run} {ovs : List Value} (h : LogIn S w v rs ovs) {i : Nat} {r : Run} {g n c : Nat} (hr : rs[i]? = some r) (hov : ovs[i]? = some (.slice (some ⟨g, 0, none⟩) n c)) {k : Nat} (hk : k < r.ops.length) (o : MOp) :
    LogIn S (wset w g (k * 4) o.cells) v (rs.set i { r with ops := r.ops.set k o }) ovs ∧ Turn S w (wset w g (k * 4) o.cells) := by
  have ht : Turn (fun q => q = g) w (wset w g (k * 4) o.cells) := Turn.wset (S := fun q => q = g) (.inl rfl) _ _ (Turn.refl _ _)
  have hS : S g := h.obl i _ hov g rfl
  have ho := h.log.ops i _ r hov hr
  obtain ⟨cs, hcs⟩ : ∃ cs, RowAt w g 67 cs := by
    rcases ho.cases with ⟨e, -⟩ | ⟨g', c', rest, e1, h2, h3, h4, h5⟩
    · cases e
    · injection e1 with e1
      injection e1 with e1
      injection e1 with e1
      subst e1
      exact ⟨_, h5⟩
  have hfar := own_far h.log.row hcs (by decide)
  refine ⟨⟨⟨?_, by rw [List.length_set]; exact h.log.len, fun t ov r' e1 e2 => ?_, h.log.dst⟩, h.blk, h.obl⟩, ht.mono fun q _ e => e ▸ hS⟩
  · have h1 : Own (wset w g (k * 4) o.cells) 0 55 8 logC v (rs.zip ovs) := Own.turn h.log.row ht fun q e e2 => hfar (e2 ▸ e)
    have e : (rs.set i { r with ops := r.ops.set k o }).zip ovs = (rs.zip ovs).set i ({ r with ops := r.ops.set k o }, .slice (some ⟨g, 0, none⟩) n c) := by
      rw [← zip_set, set_at ovs i _ hov]
    rw [e]
    have hz : (rs.zip ovs)[i]? = some (r, .slice (some ⟨g, 0, none⟩) n c) := List.getElem?_zip_eq_some.2 ⟨hr, hov⟩
    unfold Own at h1 ⊢
    rw [List.length_set, flat_like (f := logC) (y := ({ r with ops := r.ops.set k o }, Value.slice (some ⟨g, 0, none⟩) n c)) hz rfl]
    exact h1
  · by_cases ei : i = t
    · subst ei
      rw [hov] at e1
      have hl := (List.getElem?_eq_some_iff.1 hr).1
      rw [List.getElem?_set, if_pos rfl, if_pos hl] at e2
      injection e1 with e1
      injection e2 with e2
      subst e1 e2
      exact Own.put MOp.len ho hk o
    · rw [List.getElem?_set, if_neg ei] at e2
      exact Own.turn (h.log.ops t ov r' e1 e2) ht fun q e e2 => h.log.dst i t _ _ ei hov e1 g rfl (e2 ▸ e)
theorem LogIn.grown {S : Nat → Prop} {w w2 : World} {n c gA : Nat} {rs : List Run} {ovs : List Value} (h : LogIn S w (.slice (some ⟨gA, 0, none⟩) n c) rs ovs) {i : Nat} {ov : Value} (hov : ovs[i]? = some ov) (hg : w.grownBy w2 ov.ownBlock) :
    Own w2 0 55 8 logC (.slice (some ⟨gA, 0, none⟩) n c) (rs.zip ovs) := by
  have t1 : Turn (fun q => ov.ownBlock = some q) w w2 := (Turn.refl _ _).grown hg fun k hk => .inl hk
  obtain ⟨cs, hcs⟩ : ∃ cs, RowAt w gA 55 cs := by
    rcases h.log.row.cases with ⟨e, -⟩ | ⟨g', c', rest, e1, h2, h3, h4, h5⟩
    · cases e
    · injection e1 with e1
      injection e1 with e1
      injection e1 with e1
      subst e1
      exact ⟨_, h5⟩
  have hl : i < rs.length := by rw [← h.log.len]; exact (List.getElem?_eq_some_iff.1 hov).1
  have hnA := own_far (h.log.ops i ov _ hov (List.getElem?_eq_getElem hl)) hcs (by decide)
  exact Own.turn h.log.row t1 fun q e e2 => by
    have : gA = q := by simpa [Value.ownBlock] using e
    subst this
    exact hnA e2
set_option maxHeartbeats 2000000 in
/-- An entry is stored anew, with a list that has grown. -/
theorem LogIn.swap {S : Nat → Prop} {w w2 : World} {n c gA : Nat} {rs : List Run} {ovs : List Value} (h : LogIn S w (.slice (some ⟨gA, 0, none⟩) n c) rs ovs) {i : Nat} {r : Run} {ov : Value} (hr : rs[i]? = some r) (hov : ovs[i]? = some ov)
    (hg : w.grownBy w2 ov.ownBlock) {x : Value} {ys : List MOp} (hx : Own w2 0 67 4 MOp.cells x ys) (hl : x.ownBlock = ov.ownBlock ∨ x.ownBlock = some w.heap.size) (hS : S w.heap.size) (r' : Run) (hops : r'.ops = ys) :
    LogIn S (wset w2 gA (i * 8) (logC (r', x))) (.slice (some ⟨gA, 0, none⟩) n c) (rs.set i r') (ovs.set i x) ∧ Turn S w (wset w2 gA (i * 8) (logC (r', x))) := by
  subst hops
  have hil := (List.getElem?_eq_some_iff.1 hr).1
  have t1 : Turn (fun q => ov.ownBlock = some q) w w2 := (Turn.refl _ _).grown hg fun k hk => .inl hk
  have t2 : Turn (fun q => q = gA) w2 (wset w2 gA (i * 8) (logC (r', x))) := Turn.wset (S := fun q => q = gA) (.inl rfl) _ _ (Turn.refl _ _)
  obtain ⟨cs, hcs⟩ : ∃ cs, RowAt w gA 55 cs := by
    rcases h.log.row.cases with ⟨e, -⟩ | ⟨g', c', rest, e1, h2, h3, h4, h5⟩
    · cases e
    · injection e1 with e1
      injection e1 with e1
      injection e1 with e1
      subst e1
      exact ⟨_, h5⟩
  have hnA : ∀ (t : Nat) (o : Value), ovs[t]? = some o → o.ownBlock ≠ some gA := fun t o e => by
    have hl : t < rs.length := by rw [← h.log.len]; exact (List.getElem?_eq_some_iff.1 e).1
    exact own_far (h.log.ops t o _ e (List.getElem?_eq_getElem hl)) hcs (by decide)
  have hcs2 : RowAt w2 gA 55 cs := hcs.turn t1 (hnA i ov hov)
  have hxA := own_far hx hcs2 (by decide)
  have hlt : ∀ (t : Nat) (o : Value), ovs[t]? = some o → o.ownBlock ≠ some w.heap.size := fun t o e e2 => by
    have hl : t < rs.length := by rw [← h.log.len]; exact (List.getElem?_eq_some_iff.1 e).1
    have := (Own.base (h.log.ops t o _ e (List.getElem?_eq_getElem hl)) _ e2).2
    omega
  have hrow := h.grown hov hg
  obtain ⟨w3, hw3⟩ : ∃ z, z = wset w2 gA (i * 8) (logC (r', x)) := ⟨_, rfl⟩
  have hzl : i < (rs.zip ovs).length := by rw [List.length_zip, h.log.len, Nat.min_self]; exact hil
  have hput := Own.put logC_len hrow hzl (r', x)
  rw [← hw3] at t2 hput ⊢
  clear hw3
  refine ⟨⟨⟨?_, by rw [List.length_set, List.length_set]; exact h.log.len, fun t o q e1 e2 => ?_, fun s t a b hst e1 e2 g e3 => ?_⟩, h.blk, fun t o e g e2 => ?_⟩, ?_⟩
  · rw [zip_set]
    exact hput
  · by_cases ei : i = t
    · subst ei
      rw [List.getElem?_set, if_pos rfl, if_pos hil] at e2
      rw [List.getElem?_set, if_pos rfl, if_pos (by rw [h.log.len]; exact hil)] at e1
      injection e1 with e1
      injection e2 with e2
      subst e1 e2
      exact Own.turn hx t2 fun q e e2 => hxA (e2 ▸ e)
    · rw [List.getElem?_set, if_neg ei] at e1 e2
      exact Own.turn (Own.turn (h.log.ops t o q e1 e2) t1 fun g e e3 => h.log.dst i t _ _ ei hov e1 g e3 e) t2 fun g e e3 => hnA t o e1 (e3 ▸ e)
  · by_cases es : i = s
    · subst es
      rw [List.getElem?_set, if_pos rfl, if_pos (by rw [h.log.len]; exact hil)] at e1
      rw [List.getElem?_set, if_neg hst] at e2
      injection e1 with e1
      subst e1
      rcases hl with hl | hl
      · exact h.log.dst i t _ _ hst hov e2 g (hl ▸ e3)
      · rw [hl] at e3
        injection e3 with e3
        subst e3
        exact hlt t b e2
    · rw [List.getElem?_set, if_neg es] at e1
      by_cases et : i = t
      · subst et
        rw [List.getElem?_set, if_pos rfl, if_pos (by rw [h.log.len]; exact hil)] at e2
        injection e2 with e2
        subst e2
        rcases hl with hl | hl
        · rw [hl]; exact h.log.dst s i _ _ hst e1 hov g e3
        · intro e4
          rw [hl] at e4
          injection e4 with e4
          subst e4
          exact hlt s a e1 e3
      · rw [List.getElem?_set, if_neg et] at e2
        exact h.log.dst s t _ _ hst e1 e2 g e3
  · by_cases et : i = t
    · subst et
      rw [List.getElem?_set, if_pos rfl, if_pos (by rw [h.log.len]; exact hil)] at e
      injection e with e
      subst e
      rcases hl with hl | hl
      · exact h.obl i ov hov g (hl ▸ e2)
      · rw [hl] at e2
        injection e2 with e2
        subst e2
        exact hS
    · rw [List.getElem?_set, if_neg et] at e
      exact h.obl t o e g e2
  · exact (t1.mono fun q _ e => h.obl i ov hov q e).trans (t2.mono fun q _ e => by subst e; exact h.blk _ rfl)

end Go.Proofs.Ytfodagidmdbmlaa
