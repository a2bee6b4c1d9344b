/- The buffer: Take, New, and what is told of it. -/
import Derived.Test.YtmmfobbalhpomaaBu
namespace Go.Proofs.Ytmmfobbalhpomaa
set_option linter.unusedVariables false
set_option linter.unusedSimpArgs false
open Go.RowKit

def TkPost (b base : Nat) (o bud pk : Int) (rows : List Row) (w : World) (e : Ending) (w' : World) : Prop :=
  ∃ v' out, e = .returned v' ∧ IsSorted o rows out ∧ Own w' w.heap.size 30 7 Row.cells v' (out.map Nm.row) ∧ BP w' b base o bud 0 pk (.slice none 0 0) [] ∧ Turn (fun k => k = b) w w'
set_option maxRecDepth 100000 in
set_option maxHeartbeats 3200000 in
theorem take_any (b base : Nat) (o bud y pk : Int) (v : Value) (rows : List Row) (w : World) (H : BP w b base o bud y pk v rows) :
    Calls Try.prog 11 #[.pointer (some ⟨b, 0, none⟩)] w (TkPost b base o bud pk rows w) := by
  obtain ⟨A, cap, rfl⟩ := H.own.form
  have hlen := H.len
  have hle := H.le
  have htop := H.top
  have q0 := H.head.cell 0
  have q4 := H.head.cell 4
  have hbl := H.head.lt
  obtain ⟨n, hn⟩ : ∃ n, n = rows.length := ⟨_, rfl⟩
  have HN := Lib.hid hn
  have HH := Lib.hid H
  rw [← hn] at q4 hlen
  simp only [List.getElem?_cons_succ, List.getElem?_cons_zero] at q0 q4
  have ho := Lib.hid H.ord
  clear H hn
  go_enter Try.func11, Try.ntmps11
  go_wp2_with fail
  have HD := Lib.hid (show BP w.drew b base o bud y pk (.slice A rows.length cap) rows from ⟨HH.out.head, HH.out.own, HH.out.ord, HH.out.len, HH.out.le, HH.out.top, HH.out.pk0, HH.out.pkl⟩)
  go_region_held3 (fun w' => w'.cell? ⟨b, 0, none⟩ = some (.int .i64 o) ∧ w'.cell? ⟨b, 4, none⟩ = some (.slice A n cap))
    (first | exact ⟨q0, q4⟩ | exact ⟨H5.out.head.cell 0, z4⟩)
    (first
      | (go_at_call 28; refine (sorted_any o ho.out A n cap rows HN.out.symm (by omega) _ (rows_at HD.out.own)).mono ?_; rintro e w5 ⟨v', out, rfl, hs5, ho5, hb5⟩; have H5 := Lib.hid (HD.out.below hb5); have z4 : w5.cell? ⟨b, 4, none⟩ = some (.slice A n cap) := by rw [HN.out]; exact H5.out.head.cell 4))
  have HS5 := Lib.hid hs5
  have HO5 := Lib.hid ho5
  have T5 := Lib.hid ((Turn.refl (fun k => k = b) w).drew.trans (Turn.of_below hb5 _))
  have hc5 := H5.out.head.cell
  have hf5 := H5.out.head.frozen
  have hbs := hb5.size
  clear hs5 ho5 hb5 z4 q0 q4
  go_wp2
  go_ret
  have hh := ((H5.out.head.set 4 (.slice none 0 0)).set 2 (.int .i64 0))
  have t6 : Turn (fun k => k = b) w5 ((w5.setCell ⟨b, 4, none⟩ (.slice none 0 0)).setCell ⟨b, 2, none⟩ (.int .i64 0)) := (Turn.setCell (S := fun k => k = b) (p := ⟨b, 4, none⟩) (Turn.refl _ _) (.inl rfl) _).setCell (p := ⟨b, 2, none⟩) (.inl rfl) _
  refine ⟨v', out, rfl, HS5.out, HO5.out.turn t6 (fun k hk e => ?_), ⟨hh, Own.nil _ _ _ _ _, HH.out.ord, by simp, by omega, htop, HH.out.pk0, HH.out.pkl⟩, T5.out.trans t6⟩
  have h9 : w.heap.size ≤ k := (HO5.out.base k hk).1
  have e' : k = b := e
  omega
set_option maxRecDepth 100000 in
set_option maxHeartbeats 1600000 in
theorem new_any (o bud : Int) (ho : o = 1 ∨ o = 2) (h1 : 1 ≤ bud) (h2 : bud ≤ 16777216) (w : World) :
    Calls Try.prog 9 #[.int .i64 o, .int .i64 bud] w fun e w' => e = .returned (.tuple #[.pointer (some ⟨w.heap.size, 0, none⟩), .int .i64 0]) ∧ BP w' w.heap.size w.heap.size o bud 0 0 (.slice none 0 0) [] ∧ Below w.heap.size w w' := by
  have hp : BP (w.alloc (.cells [Value.int .i64 o, .int .i64 bud, .int .i64 0, .int .i64 0, .slice none 0 0].toArray 63)) w.heap.size w.heap.size o bud 0 0 (.slice none 0 0) [] :=
    ⟨RowAt.new w 63 _, Own.nil _ _ _ _ _, ho, by simp, by omega, h2, by omega, by omega⟩
  have HP := Lib.hid hp
  have BB := Lib.hid ((Below.refl w.heap.size w).alloc (Nat.le_refl _) (.cells [Value.int .i64 o, .int .i64 bud, .int .i64 0, .int .i64 0, .slice none 0 0].toArray 63))
  clear hp
  rcases ho with rfl | rfl
  all_goals
    go_enter Try.func9, Try.ntmps9
    go_wp2
    refine bodyPost_ret (results_tmp2 rfl _ _ _) rfl ?_
    exact ⟨rfl, HP.out, BB.out⟩
theorem len_any (b base : Nat) (o bud y pk : Int) (v : Value) (rows : List Row) (w : World) (H : BP w b base o bud y pk v rows) :
    Calls Try.prog 12 #[.pointer (some ⟨b, 0, none⟩)] w fun e w' => e = .returned (.int .i64 rows.length) ∧ w = w' := by
  obtain ⟨A, cap, rfl⟩ := H.own.form
  have q4 := H.head.cell 4
  obtain ⟨n, hn⟩ : ∃ n, n = rows.length := ⟨_, rfl⟩
  rw [← hn] at q4 ⊢
  simp only [List.getElem?_cons_succ, List.getElem?_cons_zero] at q4
  clear H hn
  go_enter Try.func12, Try.ntmps12
  go_wp2
  go_ret
  exact ⟨rfl, rfl⟩
theorem bytes_any (b base : Nat) (o bud y pk : Int) (v : Value) (rows : List Row) (w : World) (H : BP w b base o bud y pk v rows) :
    Calls Try.prog 13 #[.pointer (some ⟨b, 0, none⟩)] w fun e w' => e = .returned (.int .i64 y) ∧ w = w' := by
  have q4 := H.head.cell 2
  simp only [List.getElem?_cons_succ, List.getElem?_cons_zero] at q4
  clear H
  go_enter Try.func13, Try.ntmps13
  go_wp2
  go_ret
  exact ⟨rfl, rfl⟩
theorem peak_any (b base : Nat) (o bud y pk : Int) (v : Value) (rows : List Row) (w : World) (H : BP w b base o bud y pk v rows) :
    Calls Try.prog 19 #[.pointer (some ⟨b, 0, none⟩)] w fun e w' => e = .returned (.int .i64 pk) ∧ w = w' := by
  have q4 := H.head.cell 3
  simp only [List.getElem?_cons_succ, List.getElem?_cons_zero] at q4
  clear H
  go_enter Try.func19, Try.ntmps19
  go_wp2
  go_ret
  exact ⟨rfl, rfl⟩
/-- There is one way to sort. -/
theorem nums_at {rows : List Row} {a b : Nm} (ha : a ∈ nums rows) (hb : b ∈ nums rows) (h : a.at_ = b.at_) : a = b := by
  unfold nums at ha hb
  rw [List.mem_map] at ha hb
  obtain ⟨⟨x, i⟩, hx, rfl⟩ := ha
  obtain ⟨⟨y, j⟩, hy, rfl⟩ := hb
  simp only at h
  have e : i = j := by omega
  subst e
  have h1 := List.mem_zipIdx_iff_getElem?.1 hx
  have h2 := List.mem_zipIdx_iff_getElem?.1 hy
  simp only at h1 h2
  rw [h1] at h2
  injection h2 with h2
  rw [h2]
theorem IsSorted.unique {o : Int} (ho : o = 1 ∨ o = 2) {rows : List Row} {p q : List Nm} (hp : IsSorted o rows p) (hq : IsSorted o rows q) : p = q := by
  refine List.Perm.eq_of_pairwise (le := fun a b => ltN o b a = false) (fun a b ha hb h1 h2 => ?_) hp.2 hq.2 (hp.1.trans hq.1.symm)
  refine nums_at (hp.1.subset ha) (hq.1.subset hb) ?_
  have e1 : ¬ ltK (key o b) (key o a) := by rw [← ltN_iff ho, h1]; decide
  have e2 : ¬ ltK (key o a) (key o b) := by rw [← ltN_iff ho, h2]; decide
  unfold ltK key at e1 e2
  simp only at e1 e2
  omega
end Go.Proofs.Ytmmfobbalhpomaa
