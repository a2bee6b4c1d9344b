/- A game: a tree of stops, the law's list of them and the document's tree; what a step does to it. -/
import Derived.Test.YtcfdpeafnpeddaaTL
namespace Go.Proofs.Ytcfdpeafnpeddaa
set_option linter.unusedVariables false
set_option linter.unusedSimpArgs false
open Go.Conc Go.RowKit Go.MuLone

structure GS (w : World) (x : Pl) (v : Value) (r g cap base n : Nat) (st : List St) : Prop where
  ht : HT w x 0 st
  inv : SInv st
  own : Own w base 23 1 ptrC v ((List.range n).map x.B)
  far : ∀ k, v.ownBlock = some k → ¬ x.own st.length k
  rt : RT w r g cap base st
  xr : ¬ x.own st.length r
  xg : ¬ x.own st.length g
  xb : ∀ b, x.own st.length b → base ≤ b
  rb : base ≤ r
/-- The blocks of a game. -/
def gown (x : Pl) (m : Nat) (v : Value) (r g : Nat) (b : Nat) : Prop := x.own m b ∨ v.ownBlock = some b ∨ b = r ∨ b = g
section
variable {w w1 w2 w5 : World} {x x' : Pl} {v v' : Value} {r g g' cap cap' base n : Nat} {st st1 : List St}
theorem GS.vr (h : GS w x v r g cap base n st) : v.ownBlock ≠ some r := fun e => absurd (own_row h.own e h.rt.head) (by decide)
theorem GS.vg (h : GS w x v r g cap base n st) : v.ownBlock ≠ some g := fun e => by
  obtain ⟨rest, hr⟩ := h.rt.row
  exact absurd (own_row h.own e hr) (by decide)
theorem GS.lt (h : GS w x v r g cap base n st) (b : Nat) (hb : gown x st.length v r g b) : b < w.heap.size := by
  rcases hb with hb | hb | rfl | rfl
  · exact h.ht.lt b hb
  · exact (h.own.base b hb).2
  · exact h.rt.head.lt
  · exact h.rt.ltg
theorem GS.ge (h : GS w x v r g cap base n st) (b : Nat) (hb : gown x st.length v r g b) : base ≤ b := by
  rcases hb with hb | hb | rfl | rfl
  · exact h.xb b hb
  · exact (h.own.base b hb).1
  · exact h.rb
  · exact (h.rt.own.base _ rfl).1
theorem GS.turn (h : GS w x v r g cap base n st) {S : Nat → Prop} (ht : Turn S w w1) (hS : ∀ b, gown x st.length v r g b → ¬ S b) : GS w1 x v r g cap base n st :=
  ⟨h.ht.turn ht fun b hb => hS b (.inl hb), h.inv, h.own.turn ht fun k hk => hS k (.inr (.inl hk)), h.far, h.rt.turn ht (hS _ (.inr (.inr (.inl rfl)))) (hS _ (.inr (.inr (.inr rfl)))), h.xr, h.xg, h.xb, h.rb⟩
theorem GS.below (h : GS w x v r g cap base n st) (hb : Below w.heap.size w w1) : GS w1 x v r g cap base n st := h.turn (Turn.of_below hb fun _ => False) fun _ _ => id
theorem GS.rt1 (h : GS w x v r g cap base n st) (t1 : Turn (x.own st.length) w w1) : RT w1 r g cap base st := h.rt.turn t1 h.xr h.xg
/-- The tree has turned, then the document's. -/
theorem GS.step (h : GS w x v r g cap base n st) (hbw : base ≤ w.heap.size) (hn : n ≤ st.length) (h1 : HT w1 x' 0 st1) (hI : SInv st1) (t1 : Turn (x.own st.length) w w1)
    (o1 : ∀ b, x'.own st1.length b → x.own st.length b ∨ w.heap.size ≤ b) (hB : ∀ k, k < st.length → x'.B k = x.B k)
    (rt2 : RT w2 r g' cap' base st1) (t2 : Turn (fun b => b = r ∨ b = g) w1 w2) (hg : g' = g ∨ w1.heap.size ≤ g') :
    GS w2 x' v r g' cap' base n st1 ∧ Turn (gown x st.length v r g) w w2 ∧ (∀ b, gown x' st1.length v r g' b → gown x st.length v r g b ∨ w.heap.size ≤ b) := by
  have hrl := h.rt.head.lt
  have hgl := h.rt.ltg
  have hs := t1.size
  have hx : ∀ b, x'.own st1.length b → ¬ (b = r ∨ b = g) := fun b hb hh => by
    rcases o1 b hb with q | q
    · rcases hh with rfl | rfl
      · exact h.xr q
      · exact h.xg q
    · omega
  refine ⟨⟨h1.turn t2 hx, hI, ?_, ?_, rt2, fun hr => hx r hr (.inl rfl), ?_, ?_, h.rb⟩, ?_, ?_⟩
  · have e : (List.range n).map x'.B = (List.range n).map x.B := by
      apply List.map_congr_left
      intro k hk
      exact hB k (by have := List.mem_range.1 hk; omega)
    rw [e]
    exact (h.own.turn t1 h.far).turn t2 fun k hk hh => by
      rcases hh with rfl | rfl
      · exact h.vr hk
      · exact h.vg hk
  · intro k hk hh
    rcases o1 k hh with q | q
    · exact h.far k hk q
    · have := (h.own.base k hk).2; omega
  · intro hh
    rcases hg with e | e
    · exact hx _ hh (.inr e)
    · have := h1.lt _ hh; omega
  · intro b hb
    rcases o1 b hb with q | q
    · exact h.xb b q
    · omega
  · exact (t1.mono fun i _ hi => .inl hi).then t2 fun i _ hi => by
      rcases hi with rfl | rfl
      · exact .inr (.inr (.inl rfl))
      · exact .inr (.inr (.inr rfl))
  · intro b hb
    rcases hb with hb | hb | hb | hb
    · rcases o1 b hb with q | q
      · exact .inl (.inl q)
      · exact .inr q
    · exact .inl (.inr (.inl hb))
    · exact .inl (.inr (.inr (.inl hb)))
    · subst hb
      rcases hg with e | e
      · exact .inl (.inr (.inr (.inr e)))
      · exact .inr (by omega)
/-- The law's list has grown. -/
theorem GS.append (h : GS w x v r g cap base n st) (hbw : base ≤ w.heap.size) (hown : w5.ownsRow base 23 1 v' (n + 1) (((List.range n).map x.B).flatMap ptrC ++ [.pointer (some ⟨x.B n, 0, none⟩)]))
    (hg : (w.alloc (.cells #[.pointer (some ⟨x.B n, 0, none⟩)] 23)).grownBy w5 v.ownBlock) (hob : v'.ownBlock = v.ownBlock ∨ v'.ownBlock = some (w.heap.size + 1)) :
    GS w5 x v' r g cap base (n + 1) st ∧ Turn (fun b => v.ownBlock = some b) w w5 ∧ (∀ b, gown x st.length v' r g b → gown x st.length v r g b ∨ w.heap.size ≤ b) := by
  have t5 : Turn (fun b => v.ownBlock = some b) w w5 := (Turn.of_below ((Below.refl w.heap.size w).alloc (Nat.le_refl _) (.cells #[.pointer (some ⟨x.B n, 0, none⟩)] 23)) _).grown hg fun k hk => .inl hk
  have o5 : Own w5 base 23 1 ptrC v' ((List.range (n + 1)).map x.B) := by
    rw [List.range_succ, List.map_append]
    exact Own.snoc (by rw [List.length_map, List.length_range]; exact hown)
  refine ⟨⟨h.ht.turn t5 fun b hb hv => h.far b hv hb, h.inv, o5, ?_, h.rt.turn t5 h.vr h.vg, h.xr, h.xg, h.xb, h.rb⟩, t5, ?_⟩
  · intro k hk hx
    rcases hob with e | e
    · exact h.far k (e ▸ hk) hx
    · rw [e] at hk
      injection hk with hk
      have := h.ht.lt k hx
      omega
  · intro b hb
    rcases hb with hb | hb | hb | hb
    · exact .inl (.inl hb)
    · rcases hob with e | e
      · exact .inl (.inr (.inl (e ▸ hb)))
      · rw [e] at hb
        injection hb with hb
        exact .inr (by omega)
    · exact .inl (.inr (.inr (.inl hb)))
    · exact .inl (.inr (.inr (.inr hb)))
theorem GS.view (h : GS w x v r g cap base n st) : ∃ A c, v = .slice A n c ∧ ∀ i, i < n → ∃ b, A = some ⟨b, 0, none⟩ ∧ w.cell? ⟨b, i, none⟩ = some (.pointer (some ⟨x.B i, 0, none⟩)) := by
  obtain ⟨A, c, e, hv⟩ := kids_view h.own
  refine ⟨A, c, by rw [e]; simp, fun i hi => hv i (x.B i) ?_⟩
  rw [List.getElem?_map, List.getElem?_range hi]
  rfl
end
/-- What a step of a game leaves. -/
def SPost (x : Pl) (v : Value) (r g base : Nat) (st : List St) (w : World) (e : Ending) (w' : World) : Prop :=
  ∃ x' v' g' cap' st', e = .returned (.tuple #[v', .bool true]) ∧ GS w' x' v' r g' cap' base st'.length st' ∧ Turn (gown x st.length v r g) w w' ∧ ∀ b, gown x' st'.length v' r g' b → gown x st.length v r g b ∨ w.heap.size ≤ b
end Go.Proofs.Ytcfdpeafnpeddaa
