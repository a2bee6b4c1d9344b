/- The law of stable sorting: the walk. -/
import Derived.Test.YtmmfobbalhpomaaAn
import Derived.Test.YtmmfobbalhpomaaRows
import Derived.Test.YtmmfobbalhpomaaOpen
namespace Go.Proofs.Ytmmfobbalhpomaa
set_option linter.unusedVariables false
set_option linter.unusedSimpArgs false
open Go.RowKit

theorem cellsOf3 : Try.prog.cellsOf 3 = 1 := by kernel_rfl
/-- The rows that the law adds. -/
def stR (t : Int) (k : Nat) : Row := ⟨3, t, 0, 0, k, 0, ByteArray.empty⟩
def StRows (rows : List Row) : Prop := ∀ i x, rows[i]? = some x → ∃ t, x = stR t i
theorem StRows.snoc {rows : List Row} (h : StRows rows) (t : Int) : StRows (rows ++ [stR t rows.length]) := by
  intro i x hx
  by_cases hi : i < rows.length
  · rw [List.getElem?_append_left hi] at hx
    exact h i x hx
  · rw [List.getElem?_append_right (by omega)] at hx
    have : i - rows.length = 0 := by
      by_cases e : i - rows.length = 0
      · exact e
      · rw [List.getElem?_eq_none (by simp; omega)] at hx
        cases hx
    rw [this] at hx
    have e2 : i = rows.length := by omega
    simp at hx
    exact ⟨t, by rw [e2]; exact hx.symm⟩
theorem st_ok {t : Int} {k : Nat} (h0 : 0 ≤ t) (h1 : t ≤ 1099511627776) (hk : k ≤ 5000) : (stR t k).ok = true := by
  rw [Row.ok_iff]
  unfold Row.Right stR
  simp
  omega
theorem nums_mem {rows : List Row} (h : StRows rows) {x : Nm} (hx : x ∈ nums rows) : ∃ t k, x = ⟨stR t k, (k : Int)⟩ := by
  unfold nums at hx
  rw [List.mem_map] at hx
  obtain ⟨⟨r, i⟩, hr, rfl⟩ := hx
  have h1 := List.mem_zipIdx_iff_getElem?.1 hr
  obtain ⟨t, e⟩ := h i r h1
  exact ⟨t, i, by simp only; rw [e]⟩
theorem nums_apart : ∀ (l : List Row) (k : Nat), ((l.zipIdx k).map fun p => (⟨p.1, (p.2 : Int)⟩ : Nm)).Pairwise fun a b => a.at_ ≠ b.at_ := by
  intro l
  induction l with
  | nil => intro k; exact List.Pairwise.nil
  | cons x l ih =>
    intro k
    rw [List.zipIdx_cons, List.map_cons, List.pairwise_cons]
    refine ⟨fun b hb => ?_, ih (k + 1)⟩
    rw [List.mem_map] at hb
    obtain ⟨⟨r, i⟩, hr, rfl⟩ := hb
    have := List.le_snd_of_mem_zipIdx hr
    simp only at this ⊢
    omega
theorem RowsAt.like {w w' : World} {A : Option Addr} {rows : List Row} (h : RowsAt w A rows) (e : w'.heap = w.heap) : RowsAt w' A rows := by
  intro i x hx
  obtain ⟨b, off, e1, hlt, hc⟩ := h i x hx
  exact ⟨b, off, e1, by rw [e]; exact hlt, fun j hj => (World.cell?_of_block (w := w) (by rw [e])).trans (hc j hj)⟩
theorem BP.like {w w' : World} {b base : Nat} {o bud y pk : Int} {v : Value} {rows : List Row} (H : BP w b base o bud y pk v rows) (e : w'.heap = w.heap) : BP w' b base o bud y pk v rows := by
  refine ⟨RowAt.like H.head e, ?_, H.ord, H.len, H.le, H.top, H.pk0, H.pkl⟩
  obtain ⟨h1, h2⟩ := H.own
  refine ⟨h1, h2.imp id fun ⟨g, cap, cur, q1, q2, q3, q4⟩ => ⟨g, cap, cur, q1, q2, ?_, q4⟩⟩
  rw [e]
  exact q3
theorem stable_pair {rows : List Row} (h : StRows rows) {out : List Nm} (hs : IsSorted 2 rows out) {k : Nat} (hk : k + 1 < out.length) :
    ∃ t0 f0 t1 f1 : Int, ∃ a b : Nm, out[k]? = some a ∧ out[k + 1]? = some b ∧ a.row.time = t0 ∧ a.row.frm = f0 ∧ b.row.time = t1 ∧ b.row.frm = f1 ∧ ¬ (t1 < t0) ∧ ¬ (t1 = t0 ∧ f1 ≤ f0) := by
  have h1 := List.pairwise_iff_getElem.1 hs.2 k (k + 1) (by omega) hk (by omega)
  have hap : out.Pairwise fun a b => a.at_ ≠ b.at_ := (hs.1.pairwise_iff (fun {a b} h e => h e.symm)).2 (nums_apart rows 0)
  have h2 := List.pairwise_iff_getElem.1 hap k (k + 1) (by omega) hk (by omega)
  obtain ⟨ta, ka, ea⟩ := nums_mem h (hs.1.subset (List.getElem_mem (show k < out.length by omega)))
  obtain ⟨tb, kb, eb⟩ := nums_mem h (hs.1.subset (List.getElem_mem hk))
  refine ⟨_, _, _, _, out[k], out[k + 1], List.getElem?_eq_getElem (by omega), List.getElem?_eq_getElem hk, rfl, rfl, rfl, rfl, ?_⟩
  rw [ea, eb] at h1 h2
  rw [ea, eb]
  have h3 : ¬ ltK (key 2 ⟨stR tb kb, kb⟩) (key 2 ⟨stR ta ka, ka⟩) := by rw [← ltN_iff (.inr rfl), h1]; decide
  simp only [ltK, key, stR] at h3
  simp only [stR] at h2 ⊢
  have h4 : (ka : Int) ≠ (kb : Int) := h2
  simp only [true_and, Int.lt_irrefl, false_or] at h3
  omega
set_option maxRecDepth 100000 in
set_option maxHeartbeats 6400000 in
theorem stable_walk (A : Option Addr) (m cap : Nat) (xs : List Int) (hm : xs.length = m) (hml : m ≤ maxLen) (w : World) (hR : SliceRd w A 1 cellI xs) :
    Calls Try.prog 3 #[.slice A m cap] w fun e w' => e = .returned (.bool true) ∧ Below w.heap.size w w' := by
  have HR := Lib.hid hR
  have hml' : m ≤ 9223372036854775807 := by unfold maxLen at hml; omega
  have hnot : ∀ (x : Bool) (w : World), (Op.unary .not (.bool x)).run Try.prog w = .ok (.bool (!x)) w := fun _ _ => rfl
  clear hR hml
  go_enter Try.func3, Try.ntmps3
  go_wp2_with fail
  refine (anchor_any _).mono ?_
  rintro e w0 ⟨rfl, bb0⟩
  have B0 := Lib.hid bb0
  have hs0 := bb0.size
  clear bb0
  go_wp2_with fail
  refine (new_any 2 16777216 (.inr rfl) (by decide) (by decide) w0).mono ?_
  rintro e w1 ⟨rfl, h1, b1⟩
  have H1 := Lib.hid h1
  have B1 := Lib.hid (B0.out.trans (b1.mono hs0))
  clear h1 b1
  go_wp2
  go_loopw [24, 5] (fun s u wr => ∃ (j n : Nat) (y pk : Int) (v : Value) (rows : List Row), s = .int .i64 j ∧ u = .int .i64 n ∧ j ≤ m ∧ n ≤ 5000 ∧ rows.length = n ∧ y ≤ n * 1000 ∧ Hid (StRows rows) ∧ Hid (BP wr w0.heap.size w0.heap.size 2 16777216 y pk v rows) ∧ Hid (Below w.heap.size w wr)) (fun s _ _ => m - (intOf s).toNat)
  case atStart => exact ⟨0, 0, 0, 0, .slice none 0 0, [], rfl, rfl, by omega, by omega, rfl, by omega, fun i x hx => by simp at hx, H1.out, B1.out⟩
  case round =>
    clear H1 B1
    obtain ⟨j, n, y, pk, v, rows, rfl, rfl, hj, hn, hrl, hy, HS, HP, HB⟩ := hrel
    have HRL := Lib.hid hrl
    clear hrl
    by_cases hlt : j < m
    · obtain ⟨t, hx⟩ : ∃ a, xs[j]? = some a := ⟨_, List.getElem?_eq_getElem (by omega)⟩
      obtain ⟨b, off, rfl, hb, hc⟩ := (HR.out.below HB.out).at hx
      have c0 := hc 0 (by omega)
      simp only [cellI, List.getElem?_cons_zero, Nat.add_zero, Nat.mul_one] at c0
      clear hc hx
      by_cases hg : 0 ≤ t ∧ t ≤ 1099511627776 ∧ n < 5000
      · obtain ⟨g1, g2, g3⟩ := hg
        have hok := st_ok (k := n) g1 g2 (by omega)
        have hsz := (sizeF_le (stR t n)).1 hok
        have HSZ := Lib.hid hsz
        have HOK := Lib.hid hok
        have hyl := HP.out.len
        have hbs : w0.heap.size ≤ wr.heap.size := Nat.le_of_lt HP.out.head.lt
        clear hsz hok
        go_wp2_with fail
        refine (add_ok w0.heap.size w0.heap.size 2 16777216 y pk v rows (stR t n) wr HP.out hbs HOK.out (by have := HSZ.out; omega) (by have := HSZ.out; omega)).mono ?_
        rintro e w3 ⟨v', pk', rfl, h3, -, t3⟩
        have hst := HS.out.snoc t
        rw [HRL.out] at hst
        have HS3 := Lib.hid hst
        have HP3 := Lib.hid h3
        have HB3 := Lib.hid (HB.out.trans (t3.below HB.out.size fun i hi e => by
          rcases e with e | e
          · omega
          · have := (HP.out.own.base i e).1; omega))
        have hy3 : y + sizeF (stR t n) ≤ ((n + 1 : Nat) : Int) * 1000 := by have := HSZ.out; omega
        have HRL3 := Lib.hid (show (rows ++ [stR t n]).length = n + 1 by rw [List.length_append, HRL.out]; rfl)
        clear h3 t3 hst c0
        go_wp2
        go_roundw
        case rel => exact ⟨j + 1, n + 1, _, _, v', _, by go_num, by go_num, by omega, by omega, HRL3.out, hy3, HS3.out, HP3.out, HB3.out⟩
        case measure => simp [intOf]; omega
      · have hg' : t < 0 ∨ (¬ t < 0 ∧ 1099511627776 < t) ∨ (¬ t < 0 ∧ ¬ 1099511627776 < t ∧ ¬ n < 5000) := by omega
        clear hg
        rcases hg' with g1 | ⟨g1, g2⟩ | ⟨g1, g2, g3⟩
        all_goals
          go_wp2
          go_roundw
          case rel => exact ⟨j + 1, n, y, pk, v, rows, by go_num, rfl, by omega, by omega, HRL.out, hy, HS.out, HP.out, HB.out⟩
          case measure => simp [intOf]; omega
    · have e : j = m := by omega
      subst e
      go_wp2_with fail
      refine (take_any _ _ _ _ _ _ _ _ _ HP.out).mono ?_
      rintro e w6 ⟨v6, out, rfl, hs6, ho6, h6, t6⟩
      have hol := hs6.length
      rw [HRL.out] at hol
      have HB6 := Lib.hid (HB.out.trans (t6.below HB.out.size fun i hi e => by have e' : i = w0.heap.size := e; omega))
      have HS6 := Lib.hid hs6
      have HP6 := Lib.hid h6
      have hsz6 : w.heap.size ≤ w6.heap.size := HB6.out.size
      obtain ⟨A6, c6, hv6⟩ := ho6.form
      rw [List.length_map, hol] at hv6
      subst hv6
      have HRows := Lib.hid (rows_at ho6)
      have HOL := Lib.hid hol
      clear hs6 ho6 h6 t6 hol
      go_wp2
      go_loopw [9] (fun s wx => ∃ k : Nat, s = .int .i64 ((k : Int) + 1) ∧ k ≤ n ∧ Hid (RowsAt wx A6 (out.map Nm.row)) ∧ Hid (∃ pk, BP wx w0.heap.size w0.heap.size 2 16777216 0 pk (.slice none 0 0) []) ∧ Hid (Below w.heap.size w wx)) (fun s _ => n + 1 - (intOf s).toNat)
      case atStart => exact ⟨0, by simp, by omega, HRows.out, ⟨_, HP6.out⟩, HB6.out⟩
      case round =>
        obtain ⟨k, rfl, hk, HRx, HPx, HBx⟩ := hrel
        clear HRows HP6 HB6
        by_cases hkn : k + 1 < n
        · obtain ⟨t0, f0, t1, f1, a, b, ha, hb, e0, e1, e2, e3, hn1, hn2⟩ := stable_pair HS.out HS6.out (k := k) (by rw [HOL.out]; exact hkn)
          obtain ⟨g, off, rfl, hgl, hca⟩ := HRx.out k a.row (by rw [List.getElem?_map, ha]; rfl)
          obtain ⟨g', off', eg, -, hcb⟩ := HRx.out (k + 1) b.row (by rw [List.getElem?_map, hb]; rfl)
          injection eg with eg
          injection eg with eg1 eg2
          subst eg1
          subst eg2
          have p1 := hca 1 (by omega)
          have p4 := hca 4 (by omega)
          have q1 := hcb 1 (by omega)
          have q4 := hcb 4 (by omega)
          simp only [Row.cells, List.getElem?_cons_zero, List.getElem?_cons_succ, e0, e1, e2, e3] at p1 p4 q1 q4
          clear hca hcb ha hb e0 e1 e2 e3
          have i1 : (0 : Int) ≤ (k : Int) := by omega
          have i2 : (k : Int) + 1 < (n : Int) := by omega
          have d1 : decide (t1 < t0) = false := decide_eq_false hn1
          by_cases ht : t1 = t0
          · have d3 : decide (f1 ≤ f0) = false := decide_eq_false (fun h => hn2 ⟨ht, h⟩)
            have d2 : (t1 == t0) = true := by simpa using ht
            clear hn1 hn2
            subst ht
            go_wp2_with fail
            go_quiet (fail)
            go_wp2
            refine ⟨⟨k + 1, by simp, by omega, HRx.out.like rfl, by obtain ⟨pk, hh⟩ := HPx.out; exact ⟨pk, hh.like rfl⟩, belowN HBx.out _⟩, ?_⟩
            simp only [intOf]
            omega
          · have d2 : (t1 == t0) = false := by simpa using ht
            clear hn2
            go_wp2_with fail
            go_quiet (fail)
            go_wp2
            refine ⟨⟨k + 1, by simp, by omega, HRx.out.like rfl, by obtain ⟨pk, hh⟩ := HPx.out; exact ⟨pk, hh.like rfl⟩, belowN HBx.out _⟩, ?_⟩
            simp only [intOf]
            omega
        · obtain ⟨pkx, hpx⟩ := HPx.out
          have HP6 := Lib.hid hpx
          clear hpx
          go_wp2_with fail
          refine (len_any _ _ _ _ _ _ _ _ _ HP6.out).mono ?_
          rintro e w7 ⟨rfl, rfl⟩
          go_wp2_with fail
          refine (bytes_any _ _ _ _ _ _ _ _ _ HP6.out).mono ?_
          rintro e w8 ⟨rfl, rfl⟩
          go_wp2
          go_ret
          exact ⟨rfl, HBx.out⟩
end Go.Proofs.Ytmmfobbalhpomaa
