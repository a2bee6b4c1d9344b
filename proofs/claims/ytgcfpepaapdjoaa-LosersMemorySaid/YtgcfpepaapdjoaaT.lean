/- The tree of losers in memory, and the contracts of the methods that it plays by. -/
import Derived.Test.YtgcfpepaapdjoaaP
import Derived.Deep.DeepCutAuto
namespace Go.Proofs.Ytgcfpepaapdjoaa
set_option linter.unusedVariables false
set_option linter.unusedSimpArgs false
open Go.RowKit

def Src.cells (s : Src) : List Value := .int .i64 s.st :: s.row.cells
theorem Src.cells_length (s : Src) : s.cells.length = 8 := rfl
structure LT where
  order : Int
  src : List Src
  loser : List Nat
  win : Nat
  built : Bool
  opn : Int
def LT.head (t : LT) (bs bl : Nat) : List Value := [.int .i64 t.order, .slice (some ⟨bs, 0, none⟩) t.src.length t.src.length, .slice (some ⟨bl, 0, none⟩) t.src.length t.src.length, .int .i64 t.win, .bool t.built, .int .i64 t.opn]
structure IsLT (w : World) (g bs bl : Nat) (t : LT) : Prop where
  main : RowAt w g 63 (t.head bs bl)
  src : RowAt w bs 66 (t.src.flatMap Src.cells)
  los : RowAt w bl 3 (t.loser.map fun n => .int .i64 (n : Nat))
  len : t.loser.length = t.src.length
  ord : t.order = 1 ∨ t.order = 2
  pos : 1 ≤ t.src.length
  le : t.src.length ≤ 64
theorem IsLT.turn {S : Nat → Prop} {w w' : World} {g bs bl : Nat} {t : LT} (h : IsLT w g bs bl t) (ht : Turn S w w') (h1 : ¬ S g) (h2 : ¬ S bs) (h3 : ¬ S bl) : IsLT w' g bs bl t :=
  ⟨h.main.turn ht h1, h.src.turn ht h2, h.los.turn ht h3, h.len, h.ord, h.pos, h.le⟩
theorem IsLT.below {w w' : World} {g bs bl : Nat} {t : LT} (h : IsLT w g bs bl t) (hb : Below w.heap.size w w') : IsLT w' g bs bl t := h.turn (Turn.of_below hb fun _ => False) id id id
theorem IsLT.cells {w : World} {g bs bl : Nat} {t : LT} (h : IsLT w g bs bl t) : ∀ j, w.cell? ⟨g, j, none⟩ = [Value.int .i64 t.order, .slice (some ⟨bs, 0, none⟩) t.src.length t.src.length, .slice (some ⟨bl, 0, none⟩) t.src.length t.src.length, .int .i64 t.win, .bool t.built, .int .i64 t.opn][j]? := h.main.cell
theorem IsLT.los_at {w : World} {g bs bl : Nat} {t : LT} (h : IsLT w g bs bl t) {n : Nat} (hn : n < t.src.length) : w.cell? ⟨bl, n, none⟩ = some (.int .i64 (t.loser.getD n 0 : Nat)) := by
  rw [h.los.cell]
  have : n < t.loser.length := by rw [h.len]; exact hn
  simp [this]
theorem IsLT.g_bs {w : World} {g bs bl : Nat} {t : LT} (h : IsLT w g bs bl t) : g ≠ bs := h.main.ne h.src (by decide)
theorem IsLT.g_bl {w : World} {g bs bl : Nat} {t : LT} (h : IsLT w g bs bl t) : g ≠ bl := h.main.ne h.los (by decide)
theorem IsLT.bs_bl {w : World} {g bs bl : Nat} {t : LT} (h : IsLT w g bs bl t) : bs ≠ bl := h.src.ne h.los (by decide)

theorem Src.at {w : World} {bs i : Nat} {T : TypeId} {xs : List Src} {s : Src} (h : RowAt w bs T (xs.flatMap Src.cells)) (hi : xs[i]? = some s) :
    w.cell? ⟨bs, i * 8, none⟩ = some (.int .i64 s.st) ∧ w.cell? ⟨bs, i * 8 + 1, none⟩ = some (.int .i64 s.row.kind) ∧ w.cell? ⟨bs, i * 8 + 2, none⟩ = some (.int .i64 s.row.time) ∧ w.cell? ⟨bs, i * 8 + 3, none⟩ = some (.int .i64 s.row.seq) ∧
    w.cell? ⟨bs, i * 8 + 4, none⟩ = some (.int .i64 s.row.index) ∧ w.cell? ⟨bs, i * 8 + 5, none⟩ = some (.int .i64 s.row.frm) ∧ w.cell? ⟨bs, i * 8 + 6, none⟩ = some (.int .i64 s.row.to) ∧ w.cell? ⟨bs, i * 8 + 7, none⟩ = some (.string s.row.body) := by
  have key : ∀ j, j < 8 → w.cell? ⟨bs, i * 8 + j, none⟩ = s.cells[j]? := fun j hj => by
    rw [h.cell]
    exact flat_at Src.cells_length xs i j hj hi
  exact ⟨key 0 (by omega), key 1 (by omega), key 2 (by omega), key 3 (by omega), key 4 (by omega), key 5 (by omega), key 6 (by omega), key 7 (by omega)⟩
theorem at'_some {xs : List Src} {i : Nat} (h : i < xs.length) : xs[i]? = some (at' xs i) := by
  unfold at'
  rw [List.getD_eq_getElem?_getD, List.getElem?_eq_getElem h]
  rfl

/-! ### beats -/
set_option maxHeartbeats 1000000 in
theorem beats_any (g bs bl : Nat) (t : LT) (a b : Nat) (w : World) (h : IsLT w g bs bl t) (la : a < t.src.length) (lb : b < t.src.length) :
    Calls Try.prog 35 #[.pointer (some ⟨g, 0, none⟩), .int .i64 a, .int .i64 b] w fun e w' => e = .returned (.bool (bt t.order t.src a b)) ∧ Below w.heap.size w w' := by
  have hc := h.cells
  obtain ⟨x0, x1, x2, x3, x4, x5, x6, x7⟩ := Src.at h.src (at'_some la)
  obtain ⟨y0, y1, y2, y3, y4, y5, y6, y7⟩ := Src.at h.src (at'_some lb)
  have le := h.le
  have lbs := h.src.lt
  have lg := h.main.lt
  have hord := Lib.hid h.ord
  clear h
  unfold bt
  generalize at' t.src a = x at *
  generalize at' t.src b = y at *
  obtain ⟨sx, kx, tx, qx, ix, fx, ox, bx⟩ := x
  obtain ⟨sy, ky, ty, qy, iy, fy, oy, bsy⟩ := y
  simp only [] at x0 x1 x2 x3 x4 x5 x6 x7 y0 y1 y2 y3 y4 y5 y6 y7
  have hu66 := Try.underlying66
  have hu29 := Try.underlying29
  go_enter Try.func35, Try.ntmps35
  go_upto_region 1 with fail
  go_cut [7, 8] (fun s7 s8 wx => ∃ p q : Nat, s7 = .pointer (some ⟨p, 0, none⟩) ∧ s8 = .pointer (some ⟨q, 0, none⟩) ∧ Below w.heap.size w wx ∧
    RowAt wx p 66 [.int .i64 sx, .int .i64 kx, .int .i64 tx, .int .i64 qx, .int .i64 ix, .int .i64 fx, .int .i64 ox, .string bx] ∧
    RowAt wx q 66 [.int .i64 sy, .int .i64 ky, .int .i64 ty, .int .i64 qy, .int .i64 iy, .int .i64 fy, .int .i64 oy, .string bsy])
  case first =>
    go_region
    all_goals go_wp2_with fail
    all_goals go_meet
    all_goals clear x0 x1 x2 x3 x4 x5 x6 x7 y0 y1 y2 y3 y4 y5 y6 y7 hc
    · exact ⟨w.heap.size, w.heap.size + 1, rfl, rfl, (((Below.refl _ _).alloc (Nat.le_refl _) _).alloc (by simp) _).drew, heap_alloc2_old _ _ _, heap_alloc2_new _ _ _⟩
    · exact ⟨w.heap.size + 1, w.heap.size, rfl, rfl, (((Below.refl _ _).alloc (Nat.le_refl _) _).alloc (by simp) _).drew, heap_alloc2_new _ _ _, heap_alloc2_old _ _ _⟩
  case rest =>
    obtain ⟨p, q, rfl, rfl, hB, hp, hq⟩ := hcut
    clear x0 x1 x2 x3 x4 x5 x6 x7 y0 y1 y2 y3 y4 y5 y6 y7
    have hcp := hp.cell
    have hcq := hq.cell
    have hc2 : ∀ j, wc.cell? ⟨g, j, none⟩ = [Value.int .i64 t.order, .slice (some ⟨bs, 0, none⟩) t.src.length t.src.length, .slice (some ⟨bl, 0, none⟩) t.src.length t.src.length, .int .i64 t.win, .bool t.built, .int .i64 t.opn][j]? := fun j => by rw [hB.cell (p := ⟨g, j, none⟩) lg]; exact hc j
    clear hc hp hq
    by_cases e1 : sx = sy
    · subst e1
      by_cases e2 : sx = 1
      · subst e2
        go_wp2
        refine wp_region_still_tail 8 (by kernel_rfl) (by kernel_rfl) ?_
        simp only [List.take_succ_cons, List.take_zero, List.drop_succ_cons, List.drop_zero]
        repeat still_step
        refine wpStill_nil ?_
        change wpList _ _ _ _ _ wc.drew
        have B2 : Below w.heap.size w wc.drew := hB.drew
        generalize wc.drew = W2 at B2 ⊢
        clear hcp hcq hc2 hB
        go_wp2_with (go_at_call 37; refine (cmp_any t.order hord.out ⟨kx, tx, qx, ix, fx, ox, bx⟩ ⟨ky, ty, qy, iy, fy, oy, bsy⟩ _).mono ?_; rintro e w1 ⟨rfl, hb1⟩)
        · have hne : (cmpRow t.order ⟨kx, tx, qx, ix, fx, ox, bx⟩ ⟨ky, ty, qy, iy, fy, oy, bsy⟩ != 0) = true := by assumption
          have hb1 : Below W2.heap.size W2 w1 := by assumption
          go_ret
          refine ⟨ret_bool ?_, B2.trans (hb1.mono B2.size)⟩
          unfold beatsS
          simp only [bne_iff_ne, ne_eq] at hne
          simp [hne]
        · have hne : (cmpRow t.order ⟨kx, tx, qx, ix, fx, ox, bx⟩ ⟨ky, ty, qy, iy, fy, oy, bsy⟩ != 0) = false := by assumption
          have hb1 : Below W2.heap.size W2 w1 := by assumption
          go_ret
          refine ⟨ret_bool ?_, B2.trans (hb1.mono B2.size)⟩
          unfold beatsS
          simp only [bne_eq_false_iff_eq] at hne
          simp [hne]
      · go_wp2
        go_ret
        exact ⟨ret_bool (by simp [beatsS, e2]), hB⟩
    · go_wp2
      go_ret
      exact ⟨ret_bool (by rw [Bool.eq_iff_iff]; simp [beatsS, e1]), hB⟩

/-! ### waiting, Feed, Finish -/
def LT.waitF (t : LT) (i : Int) : Int := if i < 0 ∨ (t.src.length : Int) ≤ i then 111 else if (at' t.src i.toNat).st = 0 then 0 else 112
theorem waiting_any (g bs bl : Nat) (t : LT) (i : Int) (w : World) (h : IsLT w g bs bl t) :
    Calls Try.prog 24 #[.pointer (some ⟨g, 0, none⟩), .int .i64 i] w fun e w' => e = .returned (.int .i64 (t.waitF i)) ∧ w = w' := by
  have hc := h.cells
  have le := h.le
  by_cases h0 : i < 0
  · go_enter Try.func24, Try.ntmps24
    go_wp2
    go_ret
    exact ⟨ret_int (by simp [LT.waitF, h0]), rfl⟩
  · by_cases h1 : (t.src.length : Int) ≤ i
    · go_enter Try.func24, Try.ntmps24
      go_wp2
      go_ret
      exact ⟨ret_int (by simp [LT.waitF, h1]), rfl⟩
    · obtain ⟨n, rfl⟩ : ∃ n : Nat, i = n := ⟨i.toNat, by omega⟩
      have hn : n < t.src.length := by omega
      obtain ⟨x0, _⟩ := Src.at h.src (at'_some hn)
      have e : t.waitF n = if (at' t.src n).st = 0 then 0 else 112 := by
        unfold LT.waitF
        rw [if_neg (by omega)]
        rfl
      rw [e]
      clear e h h1
      generalize (at' t.src n).st = s at *
      by_cases e0 : s = 0
      all_goals
        go_enter Try.func24, Try.ntmps24
        go_wp2
        go_ret
        exact ⟨ret_int (by simp [e0]), rfl⟩

/-- One source put in memory. -/
theorem IsLT.put {w w1 w' : World} {g bs bl : Nat} {t : LT} {n : Nat} {s : Src} (h : IsLT w g bs bl t) (hb : Below w.heap.size w w1) (hn : n < t.src.length) (e : w' = (wset w1 bs (n * 8) s.cells).drew ∨ w' = wset w1 bs (n * 8) s.cells) :
    IsLT w' g bs bl { t with src := t.src.set n s } ∧ Turn (· = bs) w w' := by
  have h1 := h.below hb
  have t1 : Turn (· = bs) w w1 := Turn.of_below hb _
  have t2 : Turn (· = bs) w1 (wset w1 bs (n * 8) s.cells) := Turn.wset (S := (· = bs)) (.inl rfl) _ _ (Turn.refl _ _)
  have r := RowAt.wset s.cells (n * 8) h1.src
  rw [show setRun (t.src.flatMap Src.cells) (n * 8) s.cells = (t.src.set n s).flatMap Src.cells from flat_set Src.cells_length _ _ _ hn] at r
  have key : IsLT (wset w1 bs (n * 8) s.cells) g bs bl { t with src := t.src.set n s } ∧ Turn (· = bs) w (wset w1 bs (n * 8) s.cells) := by
    refine ⟨⟨?_, r, h1.los.turn t2 (fun e => h.bs_bl e.symm), by simpa using h.len, h.ord, by simpa using h.pos, by simpa using h.le⟩, t1.trans t2⟩
    have := h1.main.turn t2 (fun e => h.g_bs e)
    unfold LT.head at this ⊢
    simpa using this
  rcases e with rfl | rfl
  · exact ⟨⟨key.1.main.drew, key.1.src.drew, key.1.los.drew, key.1.len, key.1.ord, key.1.pos, key.1.le⟩, key.2.drew⟩
  · exact key

def LT.feedF (t : LT) (i : Int) (r : Row) : Int := if t.waitF i ≠ 0 then t.waitF i else if r.ok then 0 else 90
def LT.fed (t : LT) (i : Int) (s : Src) : LT := { t with src := t.src.set i.toNat s }
theorem LT.waitF_zero {t : LT} {i : Int} (h : t.waitF i = 0) : ∃ n : Nat, i = n ∧ n < t.src.length ∧ (at' t.src n).st = 0 := by
  unfold LT.waitF at h
  split at h
  · omega
  · rename_i hi
    split at h
    · rename_i hs
      exact ⟨i.toNat, by omega, by omega, hs⟩
    · omega
set_option maxHeartbeats 400000 in
theorem feed_no (g bs bl : Nat) (t : LT) (i : Int) (r : Row) (w : World) (h : IsLT w g bs bl t) (hf : t.feedF i r ≠ 0) :
    Calls Try.prog 11 #[.pointer (some ⟨g, 0, none⟩), .int .i64 i, .agg #[.int .i64 r.kind, .int .i64 r.time, .int .i64 r.seq, .int .i64 r.index, .int .i64 r.frm, .int .i64 r.to, .string r.body]] w fun e w' => e = .returned (.int .i64 (t.feedF i r)) ∧ Below w.heap.size w w' := by
  have H : ∀ o, IsLT (w.alloc o) g bs bl t := fun o => h.below ((Below.refl _ _).alloc (Nat.le_refl _) o)
  have HH := Lib.hid H
  by_cases hw : t.waitF i = 0
  · have e : t.feedF i r = 90 := by
      unfold LT.feedF at hf ⊢
      rw [if_neg (by simpa using hw)] at hf ⊢
      by_cases ho : r.ok = true
      · rw [if_pos ho] at hf; omega
      · rw [if_neg ho]
    have hok : r.ok = false := by
      unfold LT.feedF at e
      rw [if_neg (by simpa using hw)] at e
      by_cases ho : r.ok = true
      · rw [if_pos ho] at e; omega
      · simpa using ho
    rw [e]
    have HW := Lib.hid hw
    clear e hf h H hw
    go_enter Try.func11, Try.ntmps11
    go_wp2_with (first | (go_at_call 24; refine (waiting_any g bs bl t i _ (HH.out _)).mono ?_; rw [HW.out]; rintro e w' ⟨rfl, rfl⟩) | (go_at_call 25; refine (valid_any r _).mono ?_; rw [hok]; rintro e w1 ⟨rfl, hb1⟩))
    go_ret
    exact ⟨rfl, ((Below.refl _ _).alloc (Nat.le_refl _) _).trans (hb1.mono (by simp))⟩
  · have e : t.feedF i r = t.waitF i := by unfold LT.feedF; rw [if_pos hw]
    rw [e]
    clear e hf h H
    generalize hx : t.waitF i = x at *
    have HX := Lib.hid hx
    have hx1 : (x != 0) = true := by simpa using hw
    clear hx
    go_enter Try.func11, Try.ntmps11
    go_wp2_with (go_at_call 24; refine (waiting_any g bs bl t i _ (HH.out _)).mono ?_; rw [HX.out]; rintro e w' ⟨rfl, rfl⟩)
    go_ret
    exact ⟨rfl, (Below.refl _ _).alloc (Nat.le_refl _) _⟩
set_option maxHeartbeats 400000 in
theorem feed_yes (g bs bl : Nat) (t : LT) (i : Int) (r : Row) (w : World) (h : IsLT w g bs bl t) (hf : t.feedF i r = 0) :
    Calls Try.prog 11 #[.pointer (some ⟨g, 0, none⟩), .int .i64 i, .agg #[.int .i64 r.kind, .int .i64 r.time, .int .i64 r.seq, .int .i64 r.index, .int .i64 r.frm, .int .i64 r.to, .string r.body]] w fun e w' =>
      e = .returned (.int .i64 0) ∧ IsLT w' g bs bl (t.fed i ⟨1, r⟩) ∧ Turn (· = bs) w w' := by
  have H : ∀ o, IsLT (w.alloc o) g bs bl t := fun o => h.below ((Below.refl _ _).alloc (Nat.le_refl _) o)
  have hw : t.waitF i = 0 := by
    unfold LT.feedF at hf
    split at hf
    · exact hf
    · simp_all
  have hok : r.ok = true := by
    unfold LT.feedF at hf
    rw [if_neg (by simpa using hw)] at hf
    by_cases ho : r.ok = true
    · exact ho
    · rw [if_neg ho] at hf; omega
  obtain ⟨n, rfl, hn, hs⟩ := LT.waitF_zero hw
  have HH := Lib.hid H
  have HW := Lib.hid hw
  have h0 := Lib.hid h
  have le := h.le
  clear H hw hf hs h
  have hu66 := Try.underlying66
  have hu29 := Try.underlying29
  go_enter Try.func11, Try.ntmps11
  go_wp2_with (first | (go_at_call 24; refine (waiting_any g bs bl t n _ (HH.out _)).mono ?_; rw [HW.out]; rintro e w' ⟨rfl, rfl⟩) | (go_at_call 25; refine (valid_any r _).mono ?_; rw [hok]; rintro e w1 ⟨rfl, hb1⟩))
  have hB : Below w.heap.size w w1 := ((Below.refl _ _).alloc (Nat.le_refl _) _).trans (hb1.mono (by simp))
  have h1 := h0.out.below hB
  have hc := h1.cells
  have hbox : ∀ j, w1.cell? ⟨w.heap.size, j, none⟩ = [Value.int .i64 r.kind, .int .i64 r.time, .int .i64 r.seq, .int .i64 r.index, .int .i64 r.frm, .int .i64 r.to, .string r.body][j]? := ((RowAt.new w 29 _).below hb1).cell
  obtain ⟨x0, x1, x2, x3, x4, x5, x6, x7⟩ := Src.at h1.src (at'_some hn)
  have hfr := h1.src.frozen
  clear hb1 h1
  have HB := Lib.hid hB
  clear hB
  go_region
  all_goals go_wp2
  all_goals go_ret
  all_goals clear x0 x1 x2 x3 x4 x5 x6 x7 hc hbox hfr
  all_goals exact ⟨rfl, h0.out.put HB.out hn (.inl rfl)⟩

def LT.finF (t : LT) (i : Int) : Int := t.waitF i
def Src.fin : Src := ⟨2, Row.zero⟩
theorem finish_no (g bs bl : Nat) (t : LT) (i : Int) (w : World) (h : IsLT w g bs bl t) (hf : t.finF i ≠ 0) :
    Calls Try.prog 16 #[.pointer (some ⟨g, 0, none⟩), .int .i64 i] w fun e w' => e = .returned (.int .i64 (t.finF i)) ∧ w = w' := by
  unfold LT.finF at *
  have HH := Lib.hid h
  clear h
  generalize hx : t.waitF i = x at *
  have HX := Lib.hid hx
  have hx1 : (x != 0) = true := by simpa using hf
  clear hx
  go_enter Try.func16, Try.ntmps16
  go_wp2_with (go_at_call 24; refine (waiting_any g bs bl t i _ HH.out).mono ?_; rw [HX.out]; rintro e w' ⟨rfl, rfl⟩)
  go_ret
  exact ⟨rfl, rfl⟩
theorem finish_yes (g bs bl : Nat) (t : LT) (i : Int) (w : World) (h : IsLT w g bs bl t) (hf : t.finF i = 0) :
    Calls Try.prog 16 #[.pointer (some ⟨g, 0, none⟩), .int .i64 i] w fun e w' => e = .returned (.int .i64 0) ∧ IsLT w' g bs bl (t.fed i Src.fin) ∧ Turn (· = bs) w w' := by
  unfold LT.finF at hf
  obtain ⟨n, rfl, hn, hs⟩ := LT.waitF_zero hf
  have HW := Lib.hid hf
  have HH := Lib.hid h
  have le := h.le
  have hc := h.cells
  obtain ⟨x0, x1, x2, x3, x4, x5, x6, x7⟩ := Src.at h.src (at'_some hn)
  have hfr := h.src.frozen
  clear hf hs h
  have hu66 := Try.underlying66
  have hu29 := Try.underlying29
  go_enter Try.func16, Try.ntmps16
  go_wp2_with (go_at_call 24; refine (waiting_any g bs bl t n _ HH.out).mono ?_; rw [HW.out]; rintro e w' ⟨rfl, rfl⟩)
  go_ret
  clear x0 x1 x2 x3 x4 x5 x6 x7 hc hfr
  exact ⟨rfl, HH.out.put (Below.refl _ _) hn (.inr rfl)⟩

/-! ### build -/
theorem IsLT.lose {w w1 : World} {g bs bl : Nat} {t : LT} {l : List Nat} (h : IsLT w1 g bs bl { t with loser := l }) (hT : Turn (· = bl) w w1) (n v : Nat) :
    IsLT (w1.setCell ⟨bl, n, none⟩ (.int .i64 v)) g bs bl { t with loser := l.set n v } ∧ Turn (· = bl) w (w1.setCell ⟨bl, n, none⟩ (.int .i64 v)) := by
  refine ⟨⟨h.main.far h.g_bl _, h.src.far h.bs_bl _, ?_, by simpa using h.len, h.ord, h.pos, h.le⟩, hT.setCell (.inl rfl) _⟩
  exact (h.los.set n (.int .i64 v)).congr (by simp [List.map_set])
set_option maxHeartbeats 800000 in
theorem build_any (g bs bl : Nat) (t : LT) : ∀ (d n : Nat) (l : List Nat) (w : World), t.src.length - n = d → 1 ≤ n → n < 2 * t.src.length → IsLT w g bs bl { t with loser := l } →
    Calls Try.prog 26 #[.pointer (some ⟨g, 0, none⟩), .int .i64 n] w fun e w' => e = .returned (.int .i64 ((buildF t.order t.src n l).1 : Nat)) ∧ IsLT w' g bs bl { t with loser := (buildF t.order t.src n l).2 } ∧ Turn (· = bl) w w' := by
  intro d
  induction d using Nat.strongRecOn with
  | ind d ih =>
    intro n l w hd h1 h2 h
    have le : t.src.length ≤ 64 := h.le
    have hc := h.cells
    simp only [] at hc
    by_cases hlf : t.src.length ≤ n
    · rw [buildF_leaf hlf]
      have HH := Lib.hid h
      clear h ih
      go_enter Try.func26, Try.ntmps26
      go_wp2
      go_ret
      exact ⟨ret_int (by omega), HH.out, Turn.refl _ _⟩
    · have IH := Lib.hid ih
      have HH := Lib.hid h
      have hd' := Lib.hid hd
      have hll : l.length = t.src.length := h.len
      obtain ⟨a1, a2, -, -⟩ := buildF_tells (o := t.order) _ (2 * n) l rfl (by omega) (by omega) hll
      obtain ⟨b1, b2, -, -⟩ := buildF_tells (o := t.order) _ (2 * n + 1) (buildF t.order t.src (2 * n) l).2 rfl (by omega) (by omega) a2
      have la : (buildF t.order t.src (2 * n) l).1 < t.src.length := by rw [a1]; exact W_lt (by omega) (by omega)
      have lb : (buildF t.order t.src (2 * n + 1) (buildF t.order t.src (2 * n) l).2).1 < t.src.length := by rw [b1]; exact W_lt (by omega) (by omega)
      obtain ⟨res, hres⟩ : ∃ res, res = buildF t.order t.src n l := ⟨_, rfl⟩
      rw [← hres]
      rw [buildF_node h1 (by omega)] at hres
      generalize ha : buildF t.order t.src (2 * n) l = pa at *
      generalize hb : buildF t.order t.src (2 * n + 1) pa.2 = pb at *
      have HA := Lib.hid ha
      have HB := Lib.hid hb
      have h2' : 2 * n < 2 * t.src.length := by omega
      have HR := Lib.hid hres
      clear h ih hd hll a1 a2 b1 b2 ha hb hres
      go_enter Try.func26, Try.ntmps26
      go_wp2_with fail
      rw [show (2 * (n : Int)) = ((2 * n : Nat) : Int) from by omega]
      refine (IH.out _ (by have := hd'.out; omega) (2 * n) l _ rfl (by omega) h2' HH.out).mono ?_
      rw [HA.out]
      rintro e w1 ⟨rfl, i1, t1⟩
      have hc1 := i1.cells
      simp only [] at hc1
      have I1 := Lib.hid i1
      clear i1
      go_wp2_with fail
      rw [show (2 * (n : Int) + 1) = ((2 * n + 1 : Nat) : Int) from by omega]
      refine (IH.out _ (by have := hd'.out; omega) (2 * n + 1) pa.2 _ rfl (by omega) (by omega) I1.out).mono ?_
      rw [HB.out]
      rintro e w2 ⟨rfl, i2, t2⟩
      have hc2 := i2.cells
      simp only [] at hc2
      have I2 := Lib.hid i2
      clear i2
      go_wp2_with fail
      refine (beats_any g bs bl { t with loser := pb.2 } pa.1 pb.1 _ I2.out la lb).mono ?_
      simp only []
      rintro e w3 ⟨rfl, b3⟩
      have i3 := I2.out.below b3
      have hc3 := i3.cells
      simp only [] at hc3
      have hl3 := i3.los_at (n := n) (by simp only []; omega)
      have hfr := i3.los.frozen
      have t3 := (t1.trans t2).trans (Turn.of_below b3 (· = bl))
      have I3 := Lib.hid i3
      clear i3 t1 t2 b3 hc hc1 hc2
      cases hbt : bt t.order t.src pa.1 pb.1
      · go_wp2
        go_ret
        rw [HR.out, hbt]
        exact ⟨rfl, I3.out.lose t3 n pa.1⟩
      · go_wp2
        go_ret
        rw [HR.out, hbt]
        exact ⟨rfl, I3.out.lose t3 n pb.1⟩
end Go.Proofs.Ytgcfpepaapdjoaa
