/- The document's Chain. -/
import Derived.Test.YtkbnfnfjmofcmaaRb
namespace Go.Proofs.Ytkbnfnfjmofcmaa
set_option linter.unusedVariables false
set_option linter.unusedSimpArgs false
open Go.RowKit

def ofKey (k : ByteArray) (x : RV) : Bool := x.key.toList == k.toList
def chR (all : List RV) (k : ByteArray) : List RV := all.filter (ofKey k)
theorem chR_le (all : List RV) (k : ByteArray) (j : Nat) : (chR (all.take j) k).length ≤ all.length := Nat.le_trans (List.length_filter_le _ _) (by rw [List.length_take]; omega)
theorem chR_step {all : List RV} {k : ByteArray} {j : Nat} {x : RV} (hx : all[j]? = some x) : chR (all.take (j + 1)) k = if ofKey k x = true then chR (all.take j) k ++ [x] else chR (all.take j) k := by
  unfold chR
  rw [List.take_add_one, hx, Option.toList_some, List.filter_append, List.filter_cons]
  split
  · rfl
  · simp
set_option maxRecDepth 100000 in
set_option maxHeartbeats 4000000 in
theorem rchain_any (G : Nat → Prop) (r N : Nat) (all : List RV) (k : ByteArray) (w : World) (h : RAt G w r N all) (hN : N < 2300000000000) :
    Calls Try.prog 33 #[.pointer (some ⟨r, 0, none⟩), .string k] w fun e w' => ∃ v, e = .returned v ∧ Own w' w.heap.size 54 5 RV.cells v (chR all k) ∧ Below w.heap.size w w' := by
  have H0 := Lib.hid h
  clear h
  obtain ⟨A, cap, m1, m2, m3, m4, m5, m6⟩ := H0.out
  obtain ⟨n, hn⟩ : ∃ n, n = all.length := ⟨_, rfl⟩
  rw [← hn] at m1 m2 m4 m6
  have HN := Lib.hid hn
  have M1 := Lib.hid m1
  have M2 := Lib.hid m2
  have M4 := Lib.hid m4
  clear m1 m2 m4 hn
  go_enter Try.func33, Try.ntmps33
  go_wp2_with fail
  go_loopw [5, 6] (fun o i wr => ∃ (j : Nat) (B : Option Addr) (c : Nat), i = .int .i64 j ∧ o = .slice B (chR (all.take j) k).length c ∧ j ≤ n ∧ Hid (Own wr w.heap.size 54 5 RV.cells (.slice B (chR (all.take j) k).length c) (chR (all.take j) k)) ∧ Hid (Below w.heap.size w wr)) (fun _ i _ => n - (intOf i).toNat)
  case atStart => exact ⟨0, none, 0, rfl, rfl, by omega, Own.nil _ _ _ _ _, Below.refl _ _⟩
  case round =>
    obtain ⟨j, B, c, rfl, rfl, hj, HO, HW⟩ := hrel
    have q0 := (M1.out.below HW.out).cell 0
    simp only [List.getElem?_cons_zero] at q0
    by_cases hlt : j < n
    · obtain ⟨g, x, rfl, hx, y0, y1, y2, y3, y4⟩ := own_rv (Own.below M2.out HW.out) (i := j) (by rw [← HN.out]; exact hlt)
      have HST := Lib.hid (chR_step (k := k) hx)
      clear hx
      cases hkey : (x.key.toList == k.toList)
      · have HS2 := Lib.hid (HST.out.trans (if_neg (by unfold ofKey; rw [hkey]; simp)))
        go_wp2_with fail
        exact ⟨⟨j + 1, B, c, rfl, by rw [HS2.out], by omega, by rw [HS2.out]; exact HO, HW⟩, by show n - ((j : Int) + 1).toNat < n - (j : Int).toNat; omega⟩
      · have HS2 := Lib.hid (HST.out.trans (if_pos (by unfold ofKey; exact hkey)))
        obtain ⟨fl, hfl⟩ : ∃ l, l = chR (all.take j) k := ⟨_, rfl⟩
        have hfb : fl.length ≤ n := by rw [hfl, HN.out]; exact chR_le all k j
        rw [← hfl] at HO HS2 ⊢
        have HSL := Lib.hid (show fl.length + 1 ≤ maxLen ∧ (fl.length + 1) * 56 ≤ 140737488355328 by unfold maxLen; omega)
        have HOA := Lib.hid (HO.out.alloc (.cells #[.string x.key, .int .i64 x.v.commit, .int .i64 x.v.writer, .bool x.v.found, .string x.v.value] 54))
        have RBA := Lib.hid (RowAt.new wr 54 (RV.cells x))
        have TA := Lib.hid ((HW.out).alloc HW.out.size (.cells #[.string x.key, .int .i64 x.v.commit, .int .i64 x.v.writer, .bool x.v.found, .string x.v.value] 54))
        have hz := HW.out.size
        have HFL := Lib.hid hfl
        clear hfl HST
        go_wp2_with (first | (refine push_list RV.cells 54 45 54 (.agg RV.zero.cells.toArray) 5 56 Try.underlying45 (by kernel_rfl) rfl (by decide) RV.len rv_one _ _ (by rfl) (by rfl) w.heap.size (.slice B fl.length c) fl x (by rfl) HOA.out wr.heap.size 1 (by rfl) RBA.out HSL.out.1 HSL.out.2 (by simp; omega) (wr.heap.size + 1) (by simp) ?_; intro g5 cap5 w3 o3 g3 l3 l4; have O3 := Lib.hid o3; have T3 := Lib.hid (((Turn.of_below TA.out (fun _ => False)).grown g3 fun i hi => .inr (HOA.out.base i hi).1).below (Nat.le_refl _) fun _ _ h => h); clear o3 g3 l3 l4))
        exact ⟨⟨j + 1, some ⟨g5, 0, none⟩, cap5, rfl, by rw [HS2.out]; simp, by omega, by rw [HS2.out]; simpa using O3, T3⟩, by show n - ((j : Int) + 1).toNat < n - (j : Int).toNat; omega⟩
    · obtain rfl : j = n := by omega
      have hall : all.take j = all := List.take_of_length_le (by rw [← HN.out]; exact Nat.le_refl _)
      rw [hall] at HO ⊢
      go_wp2_with fail
      go_ret
      exact ⟨_, rfl, HO.out, HW.out⟩

end Go.Proofs.Ytkbnfnfjmofcmaa
