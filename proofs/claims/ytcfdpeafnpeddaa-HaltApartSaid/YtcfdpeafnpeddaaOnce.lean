/- sync.Once's Do at a stop that is live: the closure shuts the stop's channel. -/
import Derived.Test.YtcfdpeafnpeddaaLive
import Derived.Tactics
import Derived.Tactics2
import Derived.Defers
import Derived.Laws.Pointers
import Derived.Laws.LoneSync
import Derived.RegionTactic
import Derived.RegionCalls
import Derived.ChangeAlike
import Derived.Laws.NewBlocks
import Derived.Conc.EventLaws
import Derived.WalkKit
namespace Go.Proofs.Ytcfdpeafnpeddaa
set_option linter.unusedVariables false
set_option linter.unusedSimpArgs false
open Go.Conc Go.RowKit Go.MuLone

/-- The world in which channel c has been shut. -/
def shut (w : World) (c : Nat) : World := { w with heap := w.heap.setIfInBounds c (.chan 0 #[] true 0 0 false) }
theorem shut_same {w : World} {c : Nat} (h : c < w.heap.size) : (shut w c).heap[c]? = some (.chan 0 #[] true 0 0 false) := by
  unfold shut
  simp [h]
theorem shut_other (w : World) {c k : Nat} (h : c ≠ k) : (shut w c).heap[k]? = w.heap[k]? := by
  unfold shut
  simp [Array.getElem?_setIfInBounds_ne h]
theorem Turn.shut {S : Nat → Prop} {a w : World} (h : Turn S a w) {c : Nat} (hc : S c ∨ a.heap.size ≤ c) : Turn S a (shut w c) :=
  ⟨h.os, h.tape, h.output, by simpa [Ytcfdpeafnpeddaa.shut] using h.size, fun k hk hn => by
    rw [shut_other w (fun e => by subst e; rcases hc with hc | hc; exact hn hc; omega)]
    exact h.block k hk hn⟩
theorem RowAt.shut {w : World} {g c : Nat} {T : TypeId} {cs : List Value} (h : RowAt w g T cs) (hne : c ≠ g) : RowAt (shut w c) g T cs := (shut_other w hne).trans h
abbrev stopC (tp pp kids : Value) (left cause o m s : Int) (c : Nat) : List Value := [tp, pp, kids, .int .i64 left, .int .i64 cause, .int .u32 o, .int .i32 m, .int .u32 s, .chan (some c)]

theorem store_deferred (a : Addr) (x : Value) (u : FrameMode) (w : World) (hc : w.cell? a = some x) (hz : w.frozen? a = false) :
    CallsD Try.prog 54 #[.pointer (some a), .bool true] u w fun e u' w' => u' = u ∧ (e = .returned (.tuple #[]) ∧ w' = w.drew.setCell a (.int .u32 1)) := by
  have hc' : w.drew.cell? a = some x := by go_simp
  have hz' : w.drew.frozen? a = false := by go_simp
  have hst := run_call_store (P := Try.prog) Try.func55 (by kernel_rfl) (by kernel_rfl) (by kernel_rfl) (by kernel_rfl) (k := .u32) (y := 1) hc' hz'
  go_enter_d Try.func54, Try.ntmps54
  go_wp2
  go_region_calls
  all_goals (go_end0; exact ⟨rfl, rfl⟩)
theorem load_any (a : Addr) (x : Int) (w : World) (hc : w.cell? a = some (.int .u32 x)) : Calls Try.prog 44 #[.pointer (some a)] w fun e w' => e = .returned (.bool (x != 0)) ∧ w' = w := by
  have hl := run_call_load (P := Try.prog) Try.func53 (by kernel_rfl) (by kernel_rfl) (by kernel_rfl) .u32 (by kernel_rfl) hc
  go_enter Try.func44, Try.ntmps44
  go_wp2
  go_ret
  exact ⟨rfl, rfl⟩
theorem close_any (b c : Nat) (pl : Addr) (w : World) (hp : w.cell? pl = some (.pointer (some ⟨b, 0, none⟩))) (h8 : w.cell? ⟨b, 8, none⟩ = some (.chan (some c))) (hc : w.heap[c]? = some (.chan 0 #[] false 0 0 false)) :
    Calls Try.prog 34 #[.pointer (some pl)] w fun e w' => e = .returned (.tuple #[]) ∧ w' = shut w c := by
  have hcl := fun ats ty => run_close_open (P := Try.prog) (w := w) ats ty hc
  go_enter Try.func34, Try.ntmps34
  go_wp2
  go_end0
  exact ⟨rfl, rfl⟩
set_option maxRecDepth 100000 in
set_option maxHeartbeats 1600000 in
theorem slow_any (b c : Nat) (pl : Addr) (hpb : pl.block ≠ b) (hpc : pl.block ≠ c) (hbc : c ≠ b) (tp pp kids : Value) (left cause s : Int) (w : World) (hp : w.cell? pl = some (.pointer (some ⟨b, 0, none⟩)))
    (h : RowAt w b 67 (stopC tp pp kids left cause 0 0 s c)) (hc : w.heap[c]? = some (.chan 0 #[] false 0 0 false)) :
    Calls Try.prog 45 #[.pointer (some ⟨b, 5, none⟩), .func (.func 34) #[] #[.pointer (some pl)]] w fun e w' => e = .returned (.tuple #[]) ∧
      RowAt w' b 67 (stopC tp pp kids left cause 1 0 s c) ∧ w'.heap[c]? = some (.chan 0 #[] true 0 0 false) ∧ Turn (fun k => k = b ∨ k = c) w w' := by
  have R1 := h.set 6 (.int .i32 1)
  have hc1 : (w.setCell ⟨b, 6, none⟩ (.int .i32 1)).heap[c]? = some (.chan 0 #[] false 0 0 false) := by
    rw [Below.heap_setCell _ _ _ _ hbc]; exact hc
  have hp1 : (w.setCell ⟨b, 6, none⟩ (.int .i32 1)).cell? pl = some (.pointer (some ⟨b, 0, none⟩)) := (World.cell?_setCell_other _ ⟨b, 6, none⟩ pl _ (fun h => hpb (by rw [← h]))).trans hp
  have h81 : (w.setCell ⟨b, 6, none⟩ (.int .i32 1)).cell? ⟨b, 8, none⟩ = some (.chan (some c)) := R1.cell 8
  have hnot : ∀ (x : Bool) (w : World), (Op.unary .not (.bool x)).run Try.prog w = .ok (.bool (!x)) w := fun _ _ => rfl
  have HH := Lib.hid h
  have HC := Lib.hid hc
  go_enter_defers Try.func45, Try.ntmps45
  go_wp2_with (go_at_call 23; refine (lock_free muLib ⟨b, 6, none⟩ _ (h.cell 6) (h.frozen 6)).mono ?_; rintro e w' ⟨rfl, rfl⟩)
  refine (load_any ⟨b, 5, none⟩ 0 _ (R1.cell 5)).mono ?_
  rintro e w' ⟨rfl, rfl⟩
  go_wp2_with fail
  refine (close_any b c pl _ hp1 h81 hc1).mono ?_
  rintro e w' ⟨rfl, rfl⟩
  have R2 := R1.shut hbc
  have C2 := shut_same (w := w.setCell ⟨b, 6, none⟩ (.int .i32 1)) (c := c) (Array.getElem?_eq_some_iff.1 hc1).1
  have T2 : Turn (fun k => k = b ∨ k = c) w (shut (w.setCell ⟨b, 6, none⟩ (.int .i32 1)) c) := ((Turn.refl _ w).setCell (.inl (.inl rfl)) _).shut (.inl (.inr rfl))
  generalize shut (w.setCell ⟨b, 6, none⟩ (.int .i32 1)) c = W at R2 C2 T2 ⊢
  clear hc1 hp1 h81 R1
  go_wp2
  refine leaves_cons (f := 54) (args := #[.pointer (some ⟨b, 5, none⟩), .bool true]) (by simp) (by simp [go_sem]) ?_
  refine (store_deferred ⟨b, 5, none⟩ (.int .u32 0) .returning _ (R2.cell 5) (R2.frozen 5)).mono ?_
  rintro e u' w'' ⟨rfl, rfl, rfl⟩
  have R3 := R2.drew.set 5 (.int .u32 1)
  refine leaves_cons (f := 24) (args := #[.pointer (some ⟨b, 6, none⟩)]) (by simp [settle]) (by simp [go_sem]) ?_
  refine (unlock_deferred muLib ⟨b, 6, none⟩ _ _ (R3.cell 6) (R3.frozen 6)).mono ?_
  rintro e u' w'' ⟨rfl, rfl, rfl⟩
  have R4 := R3.set 6 (.int .i32 0)
  have C4 : ((W.drew.setCell ⟨b, 5, none⟩ (.int .u32 1)).setCell ⟨b, 6, none⟩ (.int .i32 0)).heap[c]? = some (.chan 0 #[] true 0 0 false) := by
    rw [Below.heap_setCell _ _ _ _ hbc, Below.heap_setCell _ _ _ _ hbc]
    exact C2
  have T4 := (T2.drew.setCell (p := ⟨b, 5, none⟩) (.inl (.inl rfl)) (.int .u32 1)).setCell (p := ⟨b, 6, none⟩) (.inl (.inl rfl)) (.int .i32 0)
  simp [Leaves, settle, results, Try.results45]
  exact ⟨R4, C4, T4⟩
set_option maxRecDepth 100000 in
set_option maxHeartbeats 1600000 in
theorem do_first (b c : Nat) (pl : Addr) (hpb : pl.block ≠ b) (hpc : pl.block ≠ c) (hbc : c ≠ b) (tp pp kids : Value) (left cause s : Int) (w : World) (hp : w.cell? pl = some (.pointer (some ⟨b, 0, none⟩)))
    (h : RowAt w b 67 (stopC tp pp kids left cause 0 0 s c)) (hc : w.heap[c]? = some (.chan 0 #[] false 0 0 false)) :
    Calls Try.prog 33 #[.pointer (some ⟨b, 5, none⟩), .func (.func 34) #[] #[.pointer (some pl)]] w fun e w' => e = .returned (.tuple #[]) ∧
      RowAt w' b 67 (stopC tp pp kids left cause 1 0 s c) ∧ w'.heap[c]? = some (.chan 0 #[] true 0 0 false) ∧ Turn (fun k => k = b ∨ k = c) w w' := by
  have HH := Lib.hid h
  have HC := Lib.hid hc
  go_enter Try.func33, Try.ntmps33
  go_wp2_with fail
  refine (load_any ⟨b, 5, none⟩ 0 _ (HH.out.cell 5)).mono ?_
  rintro e w' ⟨rfl, rfl⟩
  go_wp2_with fail
  refine (slow_any b c pl hpb hpc hbc tp pp kids left cause s _ hp HH.out HC.out).mono ?_
  rintro e w' ⟨rfl, h1, h2, h3⟩
  have H1 := Lib.hid h1
  have H2 := Lib.hid h2
  have H3 := Lib.hid h3
  clear h1 h2 h3 h hc hp
  go_wp2
  go_end0
  exact ⟨rfl, H1.out, H2.out, H3.out⟩
end Go.Proofs.Ytcfdpeafnpeddaa
