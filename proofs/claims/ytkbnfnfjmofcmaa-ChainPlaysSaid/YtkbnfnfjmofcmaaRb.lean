/- The document's Install. -/
import Derived.Test.YtkbnfnfjmofcmaaRa
import Derived.Test.YtkbnfnfjmofcmaaApp
import Derived.Deep.RegionLaw
namespace Go.Proofs.Ytkbnfnfjmofcmaa
set_option linter.unusedVariables false
set_option linter.unusedSimpArgs false
open Go.RowKit

/-- Block r is a list of versions; all that it owns lies in G. -/
def RAt (G : Nat → Prop) (w : World) (r N : Nat) (all : List RV) : Prop :=
  ∃ A cap, RowAt w r 47 [.slice A all.length cap] ∧ Own w 0 54 5 RV.cells (.slice A all.length cap) all ∧ G r ∧ (∀ g, (Value.slice A all.length cap).ownBlock = some g → G g) ∧ (∀ i, G i → i < w.heap.size) ∧ all.length ≤ N
theorem RAt.turn {G S : Nat → Prop} {w w' : World} {r N : Nat} {all : List RV} (h : RAt G w r N all) (ht : Turn S w w') (hd : ∀ i, G i → ¬ S i) : RAt G w' r N all := by
  obtain ⟨A, cap, h1, h2, h3, h4, h5, h6⟩ := h
  exact ⟨A, cap, h1.turn ht (hd _ h3), h2.turn ht (fun g hg => hd g (h4 g hg)), h3, h4, fun i hi => Nat.lt_of_lt_of_le (h5 i hi) ht.size, h6⟩
theorem RAt.below {G : Nat → Prop} {w w' : World} {r N : Nat} {all : List RV} (h : RAt G w r N all) (hb : Below w.heap.size w w') : RAt G w' r N all := h.turn (Turn.of_below hb fun _ => False) fun _ _ => id
theorem RAt.mono {G : Nat → Prop} {w : World} {r N N' : Nat} {all : List RV} (h : RAt G w r N all) (hN : N ≤ N') : RAt G w r N' all := by
  obtain ⟨A, cap, h1, h2, h3, h4, h5, h6⟩ := h
  exact ⟨A, cap, h1, h2, h3, h4, h5, by omega⟩
theorem RAt.flt {G : Nat → Prop} {w : World} {r N : Nat} {all : List RV} (h : RAt G w r N all) : ∀ i, G i → i < w.heap.size := by
  obtain ⟨A, cap, h1, h2, h3, h4, h5, h6⟩ := h
  exact h5
theorem rv_one (x : RV) : ∀ u ∈ x.cells, u.oneCell' = true := by
  intro u hu
  simp [RV.cells] at hu
  rcases hu with rfl | rfl | rfl | rfl | rfl <;> rfl
/-- The i-th version's cells. -/
theorem own_rv {w : World} {base : Nat} {A : Option Addr} {n cap : Nat} {all : List RV} (h : Own w base 54 5 RV.cells (.slice A n cap) all) {i : Nat} (hi : i < all.length) :
    ∃ g x, A = some ⟨g, 0, none⟩ ∧ all[i]? = some x ∧ w.cell? ⟨g, i * 5, none⟩ = some (.string x.key) ∧ w.cell? ⟨g, i * 5 + 1, none⟩ = some (.int .i64 x.v.commit) ∧ w.cell? ⟨g, i * 5 + 2, none⟩ = some (.int .i64 x.v.writer) ∧ w.cell? ⟨g, i * 5 + 3, none⟩ = some (.bool x.v.found) ∧ w.cell? ⟨g, i * 5 + 4, none⟩ = some (.string x.v.value) := by
  rcases h.cases with ⟨h, rfl⟩ | ⟨g, cap, rest, e1, h2, h3, h4, h5⟩
  · simp at hi
  · injection e1 with e1 e2 e3
    have hx : all[i]? = some all[i] := List.getElem?_eq_getElem hi
    have e : ∀ j, j < 5 → w.cell? ⟨g, i * 5 + j, none⟩ = (all[i]).cells[j]? := fun j hj => by
      rw [h5.cell, List.getElem?_append_left (by rw [flat_length RV.len]; omega)]
      exact flat_at RV.len all i j hj hx
    exact ⟨g, all[i], e1, hx, e 0 (by omega), e 1 (by omega), e 2 (by omega), e 3 (by omega), e 4 (by omega)⟩
theorem empty_list : ByteArray.empty.toList = [] := by kernel_rfl
theorem size_zero {s : ByteArray} (h : s.size = 0) : s = ByteArray.empty := by
  obtain ⟨⟨l⟩⟩ := s
  cases l with
  | nil => rfl
  | cons a l => cases h
def clash (k : ByteArray) (v : Ver) (x : RV) : Bool := (x.key.toList == k.toList) && !aboveB v x.v
def refR (k : ByteArray) (v : Ver) (all : List RV) : Int :=
  if k.size < 1 ∨ 8 < k.size then 130 else if rightV v = false then 131 else if all.any (clash k v) = true then 132 else 0
set_option maxHeartbeats 1000000 in
theorem rinstall_key (r : Nat) (k : ByteArray) (v : Ver) (w : World) (hk : k.size ≤ maxLen) (h : k.size < 1 ∨ 8 < k.size) :
    Calls Try.prog 21 #[.pointer (some ⟨r, 0, none⟩), .agg #[.string k, .int .i64 v.commit, .int .i64 v.writer, .bool v.found, .string v.value]] w fun e w' => e = .returned (.int .i64 130) ∧ Below w.heap.size w w' := by
  obtain ⟨c, u, f, s⟩ := v
  have hb := (Below.refl w.heap.size w).alloc (Nat.le_refl _) (.cells #[.string k, .int .i64 c, .int .i64 u, .bool f, .string s] 54)
  unfold maxLen at hk
  by_cases h1 : k.size < 1
  · have e1 : decide ((k.size : Int) < 1) = true := decide_eq_true (by omega)
    have e2 : decide (k.size < 1) = true := decide_eq_true (by omega)
    go_enter Try.func21, Try.ntmps21
    go_wp2_with fail
    go_ret
    exact ⟨rfl, hb⟩
  · have e1 : decide ((k.size : Int) < 1) = false := decide_eq_false (by omega)
    have e2 : decide ((8 : Int) < (k.size : Int)) = true := decide_eq_true (by omega)
    have e3 : decide (k.size < 1) = false := decide_eq_false (by omega)
    have e4 : decide (8 < k.size) = true := decide_eq_true (by omega)
    go_enter Try.func21, Try.ntmps21
    go_wp2_with fail
    go_ret
    exact ⟨rfl, hb⟩
set_option maxHeartbeats 2000000 in
theorem rinstall_ver (r : Nat) (k : ByteArray) (v : Ver) (w : World) (hk : ¬ (k.size < 1 ∨ 8 < k.size)) (h : rightV v = false) (hv : v.value.size ≤ maxLen) :
    Calls Try.prog 21 #[.pointer (some ⟨r, 0, none⟩), .agg #[.string k, .int .i64 v.commit, .int .i64 v.writer, .bool v.found, .string v.value]] w fun e w' => e = .returned (.int .i64 131) ∧ Below w.heap.size w w' := by
  obtain ⟨c, u, f, s⟩ := v
  have hb := (Below.refl w.heap.size w).alloc (Nat.le_refl _) (.cells #[.string k, .int .i64 c, .int .i64 u, .bool f, .string s] 54)
  unfold maxLen at hv
  have e1 : decide ((k.size : Int) < 1) = false := decide_eq_false (by omega)
  have e2 : decide ((8 : Int) < (k.size : Int)) = false := decide_eq_false (by omega)
  have e3 : decide (k.size < 1) = false := decide_eq_false (by omega)
  have e4 : decide (8 < k.size) = false := decide_eq_false (by omega)
  clear hk
  by_cases h1 : c < 0
  · have f1 : decide (c < 0) = true := decide_eq_true h1
    go_enter Try.func21, Try.ntmps21
    go_wp2_with fail
    go_ret
    exact ⟨rfl, hb⟩
  · have f1 : decide (c < 0) = false := decide_eq_false h1
    by_cases h2 : 1099511627776 < c
    · have f2 : decide (1099511627776 < c) = true := decide_eq_true h2
      go_enter Try.func21, Try.ntmps21
      go_wp2_with fail
      go_ret
      exact ⟨rfl, hb⟩
    · have f2 : decide (1099511627776 < c) = false := decide_eq_false h2
      by_cases h3 : u < 0
      · have f3 : decide (u < 0) = true := decide_eq_true h3
        go_enter Try.func21, Try.ntmps21
        go_wp2_with fail
        go_ret
        exact ⟨rfl, hb⟩
      · have f3 : decide (u < 0) = false := decide_eq_false h3
        by_cases h4 : 4095 < u
        · have f4 : decide (4095 < u) = true := decide_eq_true h4
          go_enter Try.func21, Try.ntmps21
          go_wp2_with fail
          go_ret
          exact ⟨rfl, hb⟩
        · have f4 : decide (4095 < u) = false := decide_eq_false h4
          by_cases h5 : 16 < s.size
          · have f5 : decide ((16 : Int) < (s.size : Int)) = true := decide_eq_true (by omega)
            have f6 : decide (16 < s.size) = true := decide_eq_true (by omega)
            go_enter Try.func21, Try.ntmps21
            go_wp2_with fail
            go_ret
            exact ⟨rfl, hb⟩
          · have f5 : decide ((16 : Int) < (s.size : Int)) = false := decide_eq_false (by omega)
            have f6 : decide (16 < s.size) = false := decide_eq_false (by omega)
            rw [← rightV_yes (by omega)] at h
            simp only [Bool.or_eq_false_iff] at h
            obtain ⟨rfl, hs⟩ := h
            have hs0 : 0 < s.size := by
              rcases Nat.eq_zero_or_pos s.size with h0 | h0
              · rw [size_zero h0, empty_list] at hs
                cases hs
              · exact h0
            have f7 : decide ((0 : Int) < (s.size : Int)) = true := decide_eq_true (by omega)
            have f8 : decide (0 < s.size) = true := decide_eq_true (by omega)
            go_enter Try.func21, Try.ntmps21
            go_wp2_with fail
            go_ret
            exact ⟨rfl, hb⟩
theorem rput {G : Nat → Prop} {w w1 w3 : World} {r N g5 cap5 n cap : Nat} {all : List RV} {x : RV} {A : Option Addr} (h : RAt G w r N all) (hn : n = all.length)
    (hG : ∀ g, (Value.slice A n cap).ownBlock = some g → G g) (t0 : Turn (fun _ => False) w w1) (t3 : Turn (fun i => (Value.slice A n cap).ownBlock = some i) w1 w3)
    (o3 : Own w3 0 54 5 RV.cells (.slice (some ⟨g5, 0, none⟩) (all.length + 1) cap5) (all ++ [x])) (m3 : RowAt w3 r 47 [.slice A n cap]) (l3 : (Value.slice A n cap).ownBlock = some g5 ∨ w.heap.size ≤ g5) (l4 : g5 < w3.heap.size) :
    ∃ G', RAt G' (w3.setCell ⟨r, 0, none⟩ (.slice (some ⟨g5, 0, none⟩) (all.length + 1) cap5)) r (N + 1) (all ++ [x]) ∧ (∀ i, G' i → G i ∨ w.heap.size ≤ i) ∧ Turn G w (w3.setCell ⟨r, 0, none⟩ (.slice (some ⟨g5, 0, none⟩) (all.length + 1) cap5)) := by
  obtain ⟨A0, cap0, m1, m2, m3', m4, m5, m6⟩ := h
  have ts : Turn (fun i => i = r) w3 (w3.setCell ⟨r, 0, none⟩ (.slice (some ⟨g5, 0, none⟩) (all.length + 1) cap5)) := Turn.setCell (S := fun i => i = r) (p := ⟨r, 0, none⟩) (Turn.refl _ _) (.inl rfl) _
  have e : (all ++ [x]).length = all.length + 1 := by simp
  have hs := ts.size
  have h01 := t0.size
  have h13 := t3.size
  refine ⟨fun i => G i ∨ (w.heap.size ≤ i ∧ i < (w3.setCell ⟨r, 0, none⟩ (.slice (some ⟨g5, 0, none⟩) (all.length + 1) cap5)).heap.size), ⟨some ⟨g5, 0, none⟩, cap5, ?_, ?_, .inl m3', ?_, ?_, ?_⟩, ?_, ?_⟩
  · rw [e]
    exact (m3.set 0 (.slice (some ⟨g5, 0, none⟩) (all.length + 1) cap5)).congr rfl
  · rw [e]
    exact o3.turn ts fun g hg e1 => own_far o3 m3 (by decide) (by rw [← e1]; exact hg)
  · rw [e]
    intro g hg
    have e9 : g5 = g := by simpa [Value.ownBlock] using hg
    subst e9
    rcases l3 with h | h
    · exact .inl (hG _ h)
    · exact .inr ⟨h, by omega⟩
  · rintro i (hi | hi)
    · have := m5 i hi
      omega
    · exact hi.2
  · rw [e]
    omega
  · rintro i (hi | hi)
    · exact .inl hi
    · exact .inr hi.1
  · refine (t0.mono fun _ _ h => h.elim).trans ?_
    refine ((t3.mono fun i _ h => hG i h).trans (ts.mono fun i _ h => ?_))
    rw [h]
    exact m3'
def RPost (G : Nat → Prop) (r N : Nat) (all : List RV) (k : ByteArray) (v : Ver) (w : World) (e : Ending) (w' : World) : Prop :=
  if all.any (clash k v) = true then e = .returned (.int .i64 132) ∧ Below w.heap.size w w'
  else e = .returned (.int .i64 0) ∧ ∃ G', RAt G' w' r (N + 1) (all ++ [⟨k, v⟩]) ∧ (∀ i, G' i → G i ∨ w.heap.size ≤ i) ∧ Turn G w w'
set_option maxRecDepth 100000 in
set_option maxHeartbeats 4000000 in
theorem rinstall_go (G : Nat → Prop) (r N : Nat) (all : List RV) (k : ByteArray) (v : Ver) (w : World) (h : RAt G w r N all) (hk : ¬ (k.size < 1 ∨ 8 < k.size)) (hv : rightV v = true) (hN : N < 2300000000000) :
    Calls Try.prog 21 #[.pointer (some ⟨r, 0, none⟩), .agg #[.string k, .int .i64 v.commit, .int .i64 v.writer, .bool v.found, .string v.value]] w (RPost G r N all k v w) := by
  obtain ⟨c, u, f, s⟩ := v
  have hv' : (0 ≤ c ∧ c ≤ 1099511627776 ∧ 0 ≤ u ∧ u < 4096 ∧ s.size ≤ 16) ∧ (f = true ∨ s.size = 0) := by
    unfold rightV at hv
    simp only [Bool.and_eq_true, decide_eq_true_eq, Bool.or_eq_true] at hv
    refine ⟨hv.1, hv.2.imp id fun h => ?_⟩
    have e : s = ByteArray.empty := bytes_eq (by rw [empty_list, List.isEmpty_iff.1 h])
    rw [e]
    rfl
  obtain ⟨⟨h1, h2, h3, h4, h5⟩, h6⟩ := hv'
  have e1 : decide ((k.size : Int) < 1) = false := decide_eq_false (by omega)
  have e2 : decide ((8 : Int) < (k.size : Int)) = false := decide_eq_false (by omega)
  have e3 : decide (k.size < 1) = false := decide_eq_false (by omega)
  have e4 : decide (8 < k.size) = false := decide_eq_false (by omega)
  have f1 : decide (c < 0) = false := decide_eq_false (by omega)
  have f2 : decide (1099511627776 < c) = false := decide_eq_false (by omega)
  have f3 : decide (u < 0) = false := decide_eq_false (by omega)
  have f4 : decide (4095 < u) = false := decide_eq_false (by omega)
  have f5 : decide ((16 : Int) < (s.size : Int)) = false := decide_eq_false (by omega)
  have f6 : decide (16 < s.size) = false := decide_eq_false (by omega)
  have H0 := Lib.hid h
  clear hk h1 h2 h3 h4 h5 hv h
  go_enter Try.func21, Try.ntmps21
  cases f with
  | true =>
    clear h6
    have hba := (Below.refl w.heap.size w).alloc (Nat.le_refl _) (.cells #[.string k, .int .i64 c, .int .i64 u, .bool true, .string s] 54)
    have rba := RowAt.new w 54 [.string k, .int .i64 c, .int .i64 u, .bool true, .string s]
    obtain ⟨W0, hW0⟩ : ∃ WW : World, WW = w.alloc (.cells #[.string k, .int .i64 c, .int .i64 u, .bool true, .string s] 54) := ⟨_, rfl⟩
    rw [show (Obj.cells (List.toArray [.string k, .int .i64 c, .int .i64 u, .bool true, .string s]) 54) = .cells #[.string k, .int .i64 c, .int .i64 u, .bool true, .string s] 54 from rfl, ← hW0] at rba
    rw [← hW0] at hba
    obtain ⟨A, cap, m1, m2, m3, m4, m5, m6⟩ := H0.out.below hba
    obtain ⟨n, hn⟩ : ∃ n, n = all.length := ⟨_, rfl⟩
    rw [← hn] at m1 m2 m4 m6
    have hlr := rba.lt
    have HN := Lib.hid hn
    have HB := Lib.hid hba
    have RB := Lib.hid rba
    have M1 := Lib.hid m1
    have M2 := Lib.hid m2
    have M4 := Lib.hid m4
    have HW0 := Lib.hid hW0
    have c0 := m1.cell 0
    simp only [List.getElem?_cons_zero] at c0
    clear hba rba m1 m2 m4 hn hW0
    go_wp2_with fail
    rw [← HW0.out]
    go_loopw [5] (fun i wr => ∃ j : Nat, i = .int .i64 j ∧ j ≤ n ∧ Hid ((all.take j).any (clash k ⟨c, u, true, s⟩) = false) ∧ Hid (Below W0.heap.size W0 wr)) (fun i _ => n - (intOf i).toNat)
    case atStart => exact ⟨0, rfl, by omega, rfl, Below.refl _ _⟩
    case round =>
      clear c0
      obtain ⟨j, rfl, hj, HC, HW⟩ := hrel
      by_cases hlt : j < n
      · obtain ⟨g, x, rfl, hx, -⟩ := own_rv (Own.below M2.out HW.out) (i := j) (by rw [← HN.out]; exact hlt)
        have hfx : ∀ w', Below W0.heap.size W0 w' → w'.cell? ⟨r, 0, none⟩ = some (.slice (some ⟨g, 0, none⟩) n cap) ∧ w'.cell? ⟨w.heap.size, 0, none⟩ = some (.string k) ∧ w'.cell? ⟨w.heap.size, 1, none⟩ = some (.int .i64 c) ∧ w'.cell? ⟨w.heap.size, 2, none⟩ = some (.int .i64 u) ∧ w'.cell? ⟨w.heap.size, 3, none⟩ = some (.bool true) ∧ w'.cell? ⟨w.heap.size, 4, none⟩ = some (.string s) ∧ w'.cell? ⟨g, j * 5, none⟩ = some (.string x.key) ∧ w'.cell? ⟨g, j * 5 + 1, none⟩ = some (.int .i64 x.v.commit) ∧ w'.cell? ⟨g, j * 5 + 2, none⟩ = some (.int .i64 x.v.writer) ∧ w'.cell? ⟨g, j * 5 + 3, none⟩ = some (.bool x.v.found) ∧ w'.cell? ⟨g, j * 5 + 4, none⟩ = some (.string x.v.value) := by
          intro w' hb
          obtain ⟨g', x', e1, hx', y0, y1, y2, y3, y4⟩ := own_rv (Own.below M2.out hb) (i := j) (by rw [← HN.out]; exact hlt)
          obtain rfl : g = g' := by injection e1 with e1; injection e1
          obtain rfl : x = x' := by rw [hx] at hx'; injection hx'
          have rr := RB.out.below hb
          exact ⟨(M1.out.below hb).cell 0, rr.cell 0, rr.cell 1, rr.cell 2, rr.cell 3, rr.cell 4, y0, y1, y2, y3, y4⟩
        have HFX := Lib.hid hfx
        obtain ⟨q, b0, b1, b2, b3, b4, x0, x1, x2, x3, x4⟩ := hfx _ HW.out
        have HX := Lib.hid hx
        clear hfx hx
        have HTK := Lib.hid (show (all.take (j + 1)).any (clash k ⟨c, u, true, s⟩) = clash k ⟨c, u, true, s⟩ x by rw [List.take_add_one, HX.out, Option.toList_some, List.any_append, HC.out]; simp)
        cases hkey : (x.key.toList == k.toList)
        · go_wp2_with fail
          go_quiet (fail)
          go_wp2_with fail
          exact ⟨⟨j + 1, rfl, by omega, Lib.hid (by rw [HTK.out]; unfold clash; rw [hkey]; rfl), belowN HW.out _⟩, by show n - ((j : Int) + 1).toNat < n - (j : Int).toNat; omega⟩
        · obtain ⟨ab, hab⟩ : ∃ b, b = aboveB ⟨c, u, true, s⟩ x.v := ⟨_, rfl⟩
          have HAB := Lib.hid hab
          have HWD := Lib.hid HW.out.drew
          clear hab
          go_wp2_with fail
          go_region_held3 (fun w' => w'.cell? ⟨r, 0, none⟩ = some (.slice (some ⟨g, 0, none⟩) n cap) ∧ w'.cell? ⟨w.heap.size, 0, none⟩ = some (.string k) ∧ w'.cell? ⟨w.heap.size, 1, none⟩ = some (.int .i64 c) ∧ w'.cell? ⟨w.heap.size, 2, none⟩ = some (.int .i64 u) ∧ w'.cell? ⟨w.heap.size, 3, none⟩ = some (.bool true) ∧ w'.cell? ⟨w.heap.size, 4, none⟩ = some (.string s) ∧ w'.cell? ⟨g, j * 5, none⟩ = some (.string x.key) ∧ w'.cell? ⟨g, j * 5 + 1, none⟩ = some (.int .i64 x.v.commit) ∧ w'.cell? ⟨g, j * 5 + 2, none⟩ = some (.int .i64 x.v.writer) ∧ w'.cell? ⟨g, j * 5 + 3, none⟩ = some (.bool x.v.found) ∧ w'.cell? ⟨g, j * 5 + 4, none⟩ = some (.string x.v.value))
            (first | exact HFX.out _ HW3.out | exact HFX.out _ HWD.out | exact HFX.out _ HW.out)
            (first | (go_at_call 35; refine (above_any ⟨k, c, u, true, s⟩ x _).mono ?_; rintro e w3 ⟨he, b3⟩; rw [← HAB.out] at he; subst he; have HW3 := Lib.hid (HWD.out.trans (b3.mono HWD.out.size)); clear b3))
          cases ab with
          | true =>
            go_wp2_with fail
            exact ⟨⟨j + 1, rfl, by omega, Lib.hid (by rw [HTK.out]; unfold clash; rw [hkey, ← HAB.out]; rfl), HW3⟩, by show n - ((j : Int) + 1).toNat < n - (j : Int).toNat; omega⟩
          | false =>
            go_wp2_with fail
            go_ret
            have hany : all.any (clash k ⟨c, u, true, s⟩) = true := List.any_eq_true.2 ⟨x, List.mem_of_getElem? HX.out, by unfold clash; rw [hkey, ← HAB.out]; rfl⟩
            unfold RPost
            rw [if_pos hany]
            exact ⟨rfl, HB.out.trans (HW3.out.mono HB.out.size)⟩
      · obtain rfl : j = n := by omega
        have q0 := (M1.out.below HW.out).cell 0
        simp only [List.getElem?_cons_zero] at q0
        have hany : all.any (clash k ⟨c, u, true, s⟩) = false := by have := HC.out; rw [List.take_of_length_le (by rw [← HN.out]; exact Nat.le_refl _)] at this; exact this
        have HANY := Lib.hid hany
        have M1a := Lib.hid (M1.out.below HW.out)
        have R1a := Lib.hid (RB.out.below HW.out)
        have M1b := Lib.hid M1a.out.drew
        have R1b := Lib.hid R1a.out.drew
        have M1c := Lib.hid (M1b.out.alloc (.cells #[.string k, .int .i64 c, .int .i64 u, .bool true, .string s] 54))
        have R1c := Lib.hid (R1b.out.alloc (.cells #[.string k, .int .i64 c, .int .i64 u, .bool true, .string s] 54))
        have HOA := Lib.hid (((Own.below M2.out HW.out).drawn).alloc (.cells #[.string k, .int .i64 c, .int .i64 u, .bool true, .string s] 54))
        have RBA := Lib.hid (RowAt.new wr.drew 54 (RV.cells ⟨k, c, u, true, s⟩))
        have HGT := Lib.hid (show ∀ g, (Value.slice A j cap).ownBlock = some g → g < w.heap.size from fun g hg => (H0.out.flt) g (M4.out g hg))
        have NB := Lib.hid (show (Value.slice A j cap).ownBlock ≠ some r ∧ (Value.slice A j cap).ownBlock ≠ some w.heap.size from ⟨own_far HOA.out M1c.out (by decide), fun e => by have := HGT.out _ e; omega⟩)
        have HSL := Lib.hid (show j + 1 ≤ maxLen ∧ (j + 1) * 56 ≤ 140737488355328 by unfold maxLen; omega)
        have HTA := Lib.hid (((Turn.of_below HW.out (fun _ => False)).drew).alloc (.cells #[.string k, .int .i64 c, .int .i64 u, .bool true, .string s] 54))
        have c0 := R1a.out.cell 0
        have c1 := R1a.out.cell 1
        have c2 := R1a.out.cell 2
        have c3 := R1a.out.cell 3
        have c4 := R1a.out.cell 4
        have q1 : ∀ o, (wr.alloc o).cell? ⟨r, 0, none⟩ = some (.slice A j cap) := fun o => (M1a.out.alloc o).cell 0
        simp only [List.getElem?_cons_zero, List.getElem?_cons_succ] at c0 c1 c2 c3 c4
        clear hany
        go_wp2_with fail
        go_region_law
          ((refine push_step RV.cells 54 45 54 (.agg RV.zero.cells.toArray) 5 56 Try.underlying45 (by kernel_rfl) rfl (by decide) RV.len rv_one _ _ (by rfl) (by rfl) 0 (.slice A j cap) all ⟨k, c, u, true, s⟩ (by rfl) HOA.out wr.heap.size 1 (by rfl) RBA.out (by rw [← HN.out]; exact HSL.out.1) (by rw [← HN.out]; exact HSL.out.2) (Nat.zero_le _) (wr.heap.size + 1) (by simp) ?_; intro g5 cap5 w3 o3 g3 l3 l4; have O3 := Lib.hid o3; have M1d := Lib.hid (grown_far g3 NB.out.1 M1c.out); have R1d := Lib.hid (grown_far g3 NB.out.2 R1c.out); have T3 := Lib.hid ((Turn.refl (fun i => (Value.slice A j cap).ownBlock = some i) _).grown g3 fun i hi => .inl hi); have L3 := Lib.hid l3; have L4 := Lib.hid l4; have qf := M1d.out.frozen 0; have qc := M1d.out.cell 0; simp only [List.getElem?_cons_zero] at qc; clear o3 g3 l3 l4))
        all_goals go_wp2
        all_goals go_ret
        all_goals unfold RPost
        all_goals rw [if_neg (by rw [HANY.out]; simp)]
        all_goals refine ⟨rfl, rput H0.out HN.out M4.out ((Turn.of_below HB.out _).trans HTA.out) T3.out O3.out M1d.out ?_ L4.out⟩
        all_goals have hz1 := HB.out.size
        all_goals have hz2 := HW.out.size
        all_goals rcases L3.out with h | h
        all_goals first | exact .inl h | exact .inr (by omega)
  | false =>
    have f7 : decide ((0 : Int) < (s.size : Int)) = false := decide_eq_false (by rcases h6 with h | h; cases h; omega)
    have f8 : decide (0 < s.size) = false := decide_eq_false (by rcases h6 with h | h; cases h; omega)
    clear h6
    have hba := (Below.refl w.heap.size w).alloc (Nat.le_refl _) (.cells #[.string k, .int .i64 c, .int .i64 u, .bool false, .string s] 54)
    have rba := RowAt.new w 54 [.string k, .int .i64 c, .int .i64 u, .bool false, .string s]
    obtain ⟨W0, hW0⟩ : ∃ WW : World, WW = w.alloc (.cells #[.string k, .int .i64 c, .int .i64 u, .bool false, .string s] 54) := ⟨_, rfl⟩
    rw [show (Obj.cells (List.toArray [.string k, .int .i64 c, .int .i64 u, .bool false, .string s]) 54) = .cells #[.string k, .int .i64 c, .int .i64 u, .bool false, .string s] 54 from rfl, ← hW0] at rba
    rw [← hW0] at hba
    obtain ⟨A, cap, m1, m2, m3, m4, m5, m6⟩ := H0.out.below hba
    obtain ⟨n, hn⟩ : ∃ n, n = all.length := ⟨_, rfl⟩
    rw [← hn] at m1 m2 m4 m6
    have hlr := rba.lt
    have HN := Lib.hid hn
    have HB := Lib.hid hba
    have RB := Lib.hid rba
    have M1 := Lib.hid m1
    have M2 := Lib.hid m2
    have M4 := Lib.hid m4
    have HW0 := Lib.hid hW0
    have c0 := m1.cell 0
    simp only [List.getElem?_cons_zero] at c0
    clear hba rba m1 m2 m4 hn hW0
    go_wp2_with fail
    rw [← HW0.out]
    go_loopw [5] (fun i wr => ∃ j : Nat, i = .int .i64 j ∧ j ≤ n ∧ Hid ((all.take j).any (clash k ⟨c, u, false, s⟩) = false) ∧ Hid (Below W0.heap.size W0 wr)) (fun i _ => n - (intOf i).toNat)
    case atStart => exact ⟨0, rfl, by omega, rfl, Below.refl _ _⟩
    case round =>
      clear c0
      obtain ⟨j, rfl, hj, HC, HW⟩ := hrel
      by_cases hlt : j < n
      · obtain ⟨g, x, rfl, hx, -⟩ := own_rv (Own.below M2.out HW.out) (i := j) (by rw [← HN.out]; exact hlt)
        have hfx : ∀ w', Below W0.heap.size W0 w' → w'.cell? ⟨r, 0, none⟩ = some (.slice (some ⟨g, 0, none⟩) n cap) ∧ w'.cell? ⟨w.heap.size, 0, none⟩ = some (.string k) ∧ w'.cell? ⟨w.heap.size, 1, none⟩ = some (.int .i64 c) ∧ w'.cell? ⟨w.heap.size, 2, none⟩ = some (.int .i64 u) ∧ w'.cell? ⟨w.heap.size, 3, none⟩ = some (.bool false) ∧ w'.cell? ⟨w.heap.size, 4, none⟩ = some (.string s) ∧ w'.cell? ⟨g, j * 5, none⟩ = some (.string x.key) ∧ w'.cell? ⟨g, j * 5 + 1, none⟩ = some (.int .i64 x.v.commit) ∧ w'.cell? ⟨g, j * 5 + 2, none⟩ = some (.int .i64 x.v.writer) ∧ w'.cell? ⟨g, j * 5 + 3, none⟩ = some (.bool x.v.found) ∧ w'.cell? ⟨g, j * 5 + 4, none⟩ = some (.string x.v.value) := by
          intro w' hb
          obtain ⟨g', x', e1, hx', y0, y1, y2, y3, y4⟩ := own_rv (Own.below M2.out hb) (i := j) (by rw [← HN.out]; exact hlt)
          obtain rfl : g = g' := by injection e1 with e1; injection e1
          obtain rfl : x = x' := by rw [hx] at hx'; injection hx'
          have rr := RB.out.below hb
          exact ⟨(M1.out.below hb).cell 0, rr.cell 0, rr.cell 1, rr.cell 2, rr.cell 3, rr.cell 4, y0, y1, y2, y3, y4⟩
        have HFX := Lib.hid hfx
        obtain ⟨q, b0, b1, b2, b3, b4, x0, x1, x2, x3, x4⟩ := hfx _ HW.out
        have HX := Lib.hid hx
        clear hfx hx
        have HTK := Lib.hid (show (all.take (j + 1)).any (clash k ⟨c, u, false, s⟩) = clash k ⟨c, u, false, s⟩ x by rw [List.take_add_one, HX.out, Option.toList_some, List.any_append, HC.out]; simp)
        cases hkey : (x.key.toList == k.toList)
        · go_wp2_with fail
          go_quiet (fail)
          go_wp2_with fail
          exact ⟨⟨j + 1, rfl, by omega, Lib.hid (by rw [HTK.out]; unfold clash; rw [hkey]; rfl), belowN HW.out _⟩, by show n - ((j : Int) + 1).toNat < n - (j : Int).toNat; omega⟩
        · obtain ⟨ab, hab⟩ : ∃ b, b = aboveB ⟨c, u, false, s⟩ x.v := ⟨_, rfl⟩
          have HAB := Lib.hid hab
          have HWD := Lib.hid HW.out.drew
          clear hab
          go_wp2_with fail
          go_region_held3 (fun w' => w'.cell? ⟨r, 0, none⟩ = some (.slice (some ⟨g, 0, none⟩) n cap) ∧ w'.cell? ⟨w.heap.size, 0, none⟩ = some (.string k) ∧ w'.cell? ⟨w.heap.size, 1, none⟩ = some (.int .i64 c) ∧ w'.cell? ⟨w.heap.size, 2, none⟩ = some (.int .i64 u) ∧ w'.cell? ⟨w.heap.size, 3, none⟩ = some (.bool false) ∧ w'.cell? ⟨w.heap.size, 4, none⟩ = some (.string s) ∧ w'.cell? ⟨g, j * 5, none⟩ = some (.string x.key) ∧ w'.cell? ⟨g, j * 5 + 1, none⟩ = some (.int .i64 x.v.commit) ∧ w'.cell? ⟨g, j * 5 + 2, none⟩ = some (.int .i64 x.v.writer) ∧ w'.cell? ⟨g, j * 5 + 3, none⟩ = some (.bool x.v.found) ∧ w'.cell? ⟨g, j * 5 + 4, none⟩ = some (.string x.v.value))
            (first | exact HFX.out _ HW3.out | exact HFX.out _ HWD.out | exact HFX.out _ HW.out)
            (first | (go_at_call 35; refine (above_any ⟨k, c, u, false, s⟩ x _).mono ?_; rintro e w3 ⟨he, b3⟩; rw [← HAB.out] at he; subst he; have HW3 := Lib.hid (HWD.out.trans (b3.mono HWD.out.size)); clear b3))
          cases ab with
          | true =>
            go_wp2_with fail
            exact ⟨⟨j + 1, rfl, by omega, Lib.hid (by rw [HTK.out]; unfold clash; rw [hkey, ← HAB.out]; rfl), HW3⟩, by show n - ((j : Int) + 1).toNat < n - (j : Int).toNat; omega⟩
          | false =>
            go_wp2_with fail
            go_ret
            have hany : all.any (clash k ⟨c, u, false, s⟩) = true := List.any_eq_true.2 ⟨x, List.mem_of_getElem? HX.out, by unfold clash; rw [hkey, ← HAB.out]; rfl⟩
            unfold RPost
            rw [if_pos hany]
            exact ⟨rfl, HB.out.trans (HW3.out.mono HB.out.size)⟩
      · obtain rfl : j = n := by omega
        have q0 := (M1.out.below HW.out).cell 0
        simp only [List.getElem?_cons_zero] at q0
        have hany : all.any (clash k ⟨c, u, false, s⟩) = false := by have := HC.out; rw [List.take_of_length_le (by rw [← HN.out]; exact Nat.le_refl _)] at this; exact this
        have HANY := Lib.hid hany
        have M1a := Lib.hid (M1.out.below HW.out)
        have R1a := Lib.hid (RB.out.below HW.out)
        have M1b := Lib.hid M1a.out.drew
        have R1b := Lib.hid R1a.out.drew
        have M1c := Lib.hid (M1b.out.alloc (.cells #[.string k, .int .i64 c, .int .i64 u, .bool false, .string s] 54))
        have R1c := Lib.hid (R1b.out.alloc (.cells #[.string k, .int .i64 c, .int .i64 u, .bool false, .string s] 54))
        have HOA := Lib.hid (((Own.below M2.out HW.out).drawn).alloc (.cells #[.string k, .int .i64 c, .int .i64 u, .bool false, .string s] 54))
        have RBA := Lib.hid (RowAt.new wr.drew 54 (RV.cells ⟨k, c, u, false, s⟩))
        have HGT := Lib.hid (show ∀ g, (Value.slice A j cap).ownBlock = some g → g < w.heap.size from fun g hg => (H0.out.flt) g (M4.out g hg))
        have NB := Lib.hid (show (Value.slice A j cap).ownBlock ≠ some r ∧ (Value.slice A j cap).ownBlock ≠ some w.heap.size from ⟨own_far HOA.out M1c.out (by decide), fun e => by have := HGT.out _ e; omega⟩)
        have HSL := Lib.hid (show j + 1 ≤ maxLen ∧ (j + 1) * 56 ≤ 140737488355328 by unfold maxLen; omega)
        have HTA := Lib.hid (((Turn.of_below HW.out (fun _ => False)).drew).alloc (.cells #[.string k, .int .i64 c, .int .i64 u, .bool false, .string s] 54))
        have c0 := R1a.out.cell 0
        have c1 := R1a.out.cell 1
        have c2 := R1a.out.cell 2
        have c3 := R1a.out.cell 3
        have c4 := R1a.out.cell 4
        have q1 : ∀ o, (wr.alloc o).cell? ⟨r, 0, none⟩ = some (.slice A j cap) := fun o => (M1a.out.alloc o).cell 0
        simp only [List.getElem?_cons_zero, List.getElem?_cons_succ] at c0 c1 c2 c3 c4
        clear hany
        go_wp2_with fail
        go_region_law
          ((refine push_step RV.cells 54 45 54 (.agg RV.zero.cells.toArray) 5 56 Try.underlying45 (by kernel_rfl) rfl (by decide) RV.len rv_one _ _ (by rfl) (by rfl) 0 (.slice A j cap) all ⟨k, c, u, false, s⟩ (by rfl) HOA.out wr.heap.size 1 (by rfl) RBA.out (by rw [← HN.out]; exact HSL.out.1) (by rw [← HN.out]; exact HSL.out.2) (Nat.zero_le _) (wr.heap.size + 1) (by simp) ?_; intro g5 cap5 w3 o3 g3 l3 l4; have O3 := Lib.hid o3; have M1d := Lib.hid (grown_far g3 NB.out.1 M1c.out); have R1d := Lib.hid (grown_far g3 NB.out.2 R1c.out); have T3 := Lib.hid ((Turn.refl (fun i => (Value.slice A j cap).ownBlock = some i) _).grown g3 fun i hi => .inl hi); have L3 := Lib.hid l3; have L4 := Lib.hid l4; have qf := M1d.out.frozen 0; have qc := M1d.out.cell 0; simp only [List.getElem?_cons_zero] at qc; clear o3 g3 l3 l4))
        all_goals go_wp2
        all_goals go_ret
        all_goals unfold RPost
        all_goals rw [if_neg (by rw [HANY.out]; simp)]
        all_goals refine ⟨rfl, rput H0.out HN.out M4.out ((Turn.of_below HB.out _).trans HTA.out) T3.out O3.out M1d.out ?_ L4.out⟩
        all_goals have hz1 := HB.out.size
        all_goals have hz2 := HW.out.size
        all_goals rcases L3.out with h | h
        all_goals first | exact .inl h | exact .inr (by omega)
theorem rinstall_any (G : Nat → Prop) (r N : Nat) (all : List RV) (k : ByteArray) (v : Ver) (w : World) (h : RAt G w r N all) (hk : k.size ≤ maxLen) (hv : v.value.size ≤ maxLen) (hN : N < 2300000000000) :
    Calls Try.prog 21 #[.pointer (some ⟨r, 0, none⟩), .agg #[.string k, .int .i64 v.commit, .int .i64 v.writer, .bool v.found, .string v.value]] w fun e w' =>
      e = .returned (.int .i64 (refR k v all)) ∧ ∃ G', RAt G' w' r (N + 1) (if refR k v all = 0 then all ++ [⟨k, v⟩] else all) ∧ (∀ i, G' i → G i ∨ w.heap.size ≤ i) ∧ Turn G w w' := by
  have stay : ∀ w', Below w.heap.size w w' → ∃ G', RAt G' w' r (N + 1) all ∧ (∀ i, G' i → G i ∨ w.heap.size ≤ i) ∧ Turn G w w' := fun w' hb => ⟨G, (h.below hb).mono (by omega), fun _ => .inl, Turn.of_below hb _⟩
  by_cases h1 : k.size < 1 ∨ 8 < k.size
  · have e : refR k v all = 130 := by unfold refR; rw [if_pos h1]
    rw [e]
    exact (rinstall_key r k v w hk h1).mono fun e w' ⟨he, hb⟩ => ⟨he, stay w' hb⟩
  · cases h2 : rightV v with
    | false =>
      have e : refR k v all = 131 := by unfold refR; rw [if_neg h1, if_pos h2]
      rw [e]
      exact (rinstall_ver r k v w h1 h2 hv).mono fun e w' ⟨he, hb⟩ => ⟨he, stay w' hb⟩
    | true =>
      refine (rinstall_go G r N all k v w h h1 h2 hN).mono fun e w' hp => ?_
      unfold RPost at hp
      cases h3 : all.any (clash k v) with
      | true =>
        have e : refR k v all = 132 := by unfold refR; rw [if_neg h1, h2, if_neg (by simp), if_pos h3]
        rw [if_pos h3] at hp
        rw [e]
        exact ⟨hp.1, stay w' hp.2⟩
      | false =>
        have e : refR k v all = 0 := by unfold refR; rw [if_neg h1, h2, if_neg (by simp), if_neg (by rw [h3]; simp)]
        rw [if_neg (by rw [h3]; simp)] at hp
        rw [e]
        exact hp

end Go.Proofs.Ytkbnfnfjmofcmaa
