/- dirty. -/
import Derived.Test.YtfodagidmdbmlaaM6
import Derived.LaidEqlPtr
namespace Go.Proofs.Ytfodagidmdbmlaa
set_option linter.unusedVariables false
set_option linter.unusedSimpArgs false
open Go.RowKit

/-- The last operation on a key of other active transactions, over the first n sessions. -/
def dirtyN (M : Mach) (j : Nat) (k : ByteArray) : Nat → MOp × Int
  | 0 => (MOp.zero, -1)
  | s + 1 =>
    match (M.sess.getD s (none, 0)).1 with
    | none => dirtyN M j k s
    | some i => if i = j then dirtyN M j k s else
      if (lastV (M.all.getD i Run.zero) k).2.2 = true ∧ (dirtyN M j k s).2 < (lastV (M.all.getD i Run.zero) k).2.1 then ((lastV (M.all.getD i Run.zero) k).1, (lastV (M.all.getD i Run.zero) k).2.1) else dirtyN M j k s
def dirtyR (x : MOp × Int) : Value := .tuple #[.agg #[.int .i64 x.1.kind, .string x.1.key, .bool x.1.found, .string x.1.value], .bool (decide (x.2 ≥ 0))]
theorem dirtyN_none {M : Mach} {j s : Nat} {k : ByteArray} {q : Int} (h : M.sess[s]? = some (none, q)) : dirtyN M j k (s + 1) = dirtyN M j k s := by
  show (match (M.sess.getD s (none, 0)).1 with | none => _ | some i => _) = _
  rw [List.getD_eq_getElem?_getD, h]
  rfl
theorem dirtyN_self {M : Mach} {j s : Nat} {k : ByteArray} {q : Int} (h : M.sess[s]? = some (some j, q)) : dirtyN M j k (s + 1) = dirtyN M j k s := by
  show (match (M.sess.getD s (none, 0)).1 with | none => _ | some i => _) = _
  rw [List.getD_eq_getElem?_getD, h]
  exact if_pos rfl
theorem dirtyN_other {M : Mach} {j s i : Nat} {k : ByteArray} {q : Int} {r : Run} (h : M.sess[s]? = some (some i, q)) (hij : i ≠ j) (hr : M.all[i]? = some r) :
    dirtyN M j k (s + 1) = if (lastV r k).2.2 = true ∧ (dirtyN M j k s).2 < (lastV r k).2.1 then ((lastV r k).1, (lastV r k).2.1) else dirtyN M j k s := by
  have e : M.all.getD i Run.zero = r := by rw [List.getD_eq_getElem?_getD, hr]; rfl
  show (match (M.sess.getD s (none, 0)).1 with | none => _ | some i => _) = _
  rw [List.getD_eq_getElem?_getD, h]
  show (if i = j then _ else _) = _
  rw [if_neg hij, e]
theorem info80 : ∃ j, Try.prog.info? 80 = some j ∧ j.size ≠ 0 := by
  have h : (Try.prog.info? 80).map (fun i => i.size) = some 10 := by kernel_rfl
  cases e : Try.prog.info? 80 with
  | none => rw [e] at h; cases h
  | some i =>
    rw [e] at h
    exact ⟨i, rfl, fun h0 => by simp at h; omega⟩
theorem eql_same (w : World) (b : Nat) : (binOp .eql 76 (.pointer (some ⟨b, 0, none⟩)) (.pointer (some ⟨b, 0, none⟩))).run Try.prog w = .ok (.bool true) w := by
  obtain ⟨j, hj, -⟩ := info80
  exact run_eql_ptr_same w _ Try.underlying76 hj
theorem eql_other {w : World} {a b : Nat} {S T : TypeId} {cs cs' : List Value} (ha : RowAt w a S cs) (hb : RowAt w b T cs') (hne : a ≠ b) : (binOp .eql 76 (.pointer (some ⟨a, 0, none⟩)) (.pointer (some ⟨b, 0, none⟩))).run Try.prog w = .ok (.bool false) w := by
  obtain ⟨j, hj, hz⟩ := info80
  exact run_eql_ptr_other w Try.underlying76 hj hz (fun e => hne (by injection e)) ha hb
set_option maxRecDepth 100000 in
set_option maxHeartbeats 4000000 in
theorem dirty_any (m : Nat) (M : Mach) (gs p : Nat) (lv : Value) (pl : List Pl) (Fs : Nat → Prop) (N j : Nat) (k : ByteArray) (w : World) (h : MachAt w m M gs p lv pl Fs N) (hi : MInv M) (hj : j < M.all.length) :
    Calls Try.prog 47 #[.pointer (some ⟨m, 0, none⟩), .pointer (some ⟨(plAt pl j).b, 0, none⟩), .string k] w fun e w' => e = .returned (dirtyR (dirtyN M j k M.sess.length)) ∧ Below w.heap.size w w' := by
  have hb1 := (Below.refl w.heap.size w).alloc (Nat.le_refl _) (.cells #[.int .i64 0, .string ⟨#[]⟩, .bool false, .string ⟨#[]⟩] 67)
  have hb2 := hb1.alloc hb1.size (.cells #[.int .i64 0, .string ⟨#[]⟩, .bool false, .string ⟨#[]⟩] 67)
  have r1 := (RowAt.new w 67 MOp.zero.cells).alloc (.cells #[.int .i64 0, .string ⟨#[]⟩, .bool false, .string ⟨#[]⟩] 67)
  have r2 := RowAt.new' (w.alloc (.cells #[.int .i64 0, .string ⟨#[]⟩, .bool false, .string ⟨#[]⟩] 67)) (w.heap.size + 1) 67 MOp.zero.cells (by simp)
  have H := Lib.hid h
  have HI := Lib.hid hi
  have m3 := (h.below hb2).row.cell 3
  simp only [rowM, List.getElem?_cons_zero, List.getElem?_cons_succ] at m3
  obtain ⟨res, hres⟩ : ∃ z, z = dirtyN M j k M.sess.length := ⟨_, rfl⟩
  rw [← hres]
  obtain ⟨n, hn⟩ : ∃ n, n = M.sess.length := ⟨_, rfl⟩
  have hn64 := hi.n0
  rw [← hn] at m3 hres hn64
  have HN := Lib.hid hn
  have HRES := Lib.hid hres
  have HJ := Lib.hid hj
  have B2 := Lib.hid hb2
  have R1 := Lib.hid r1
  have R2 := Lib.hid r2
  obtain ⟨pb, hpb⟩ : ∃ z, z = (plAt pl j).b := ⟨_, rfl⟩
  rw [← hpb]
  have HPB := Lib.hid hpb
  clear h hi hres hn hj hb1 hb2 r1 r2 hpb
  go_enter Try.func47, Try.ntmps47
  go_wp2_with fail
  go_loopw [9, 20] (fun wh i wr => ∃ s : Nat, s ≤ n ∧ i = .int .i64 s ∧ wh = .int .i64 (dirtyN M j k s).2 ∧ Hid (Below w.heap.size w wr) ∧ Hid (RowAt wr w.heap.size 67 MOp.zero.cells) ∧ Hid (RowAt wr (w.heap.size + 1) 67 (dirtyN M j k s).1.cells)) (fun _ i _ => n - (intOf i).toNat)
  case atStart => exact ⟨0, by omega, rfl, rfl, B2.out, R1.out, R2.out⟩
  case round =>
    obtain ⟨s, hs, rfl, rfl, HW, Q1, Q2⟩ := hrel
    by_cases hlt : s < n
    · obtain ⟨⟨o, sq⟩, hx⟩ : ∃ x, M.sess[s]? = some x := ⟨_, List.getElem?_eq_getElem (by rw [← HN.out]; exact hlt)⟩
      obtain ⟨x0, x1⟩ := (H.out.below HW.out).sess hx
      simp only at x1
      have hs0 : (0 : Int) ≤ (s : Int) := by omega
      have hs1 : (s : Int) < (n : Int) := by omega
      cases o with
      | none =>
        have HST := Lib.hid (dirtyN_none (j := j) (k := k) hx)
        simp only [Option.map_none] at x0
        have hbx := (Below.refl wr.heap.size wr).alloc (Nat.le_refl _) (.cells #[.pointer none, .int .i64 sq] 78)
        have rbx := RowAt.new wr 78 [.pointer none, .int .i64 sq]
        have y0 := rbx.cell 0
        simp only [List.getElem?_cons_zero] at y0
        have HW2 := Lib.hid (HW.out.trans (hbx.mono HW.out.size))
        have Q12 := Lib.hid (Q1.out.below hbx)
        have Q22 := Lib.hid (Q2.out.below hbx)
        clear hx hbx rbx
        go_wp2_with fail
        exact ⟨⟨s + 1, by omega, rfl, by rw [HST.out], HW2, Q12, by rw [HST.out]; exact Q22⟩, by show n - ((s : Int) + 1).toNat < n - (s : Int).toNat; omega⟩
      | some i =>
        obtain ⟨r, hr, -⟩ := HI.out.now s i sq hx
        obtain ⟨pq, -⟩ := H.out.place hr
        simp only [Option.map_some] at x0
        have hbx := (Below.refl wr.heap.size wr).alloc (Nat.le_refl _) (.cells #[.pointer (some ⟨(plAt pl i).b, 0, none⟩), .int .i64 sq] 78)
        have rbx := RowAt.new wr 78 [.pointer (some ⟨(plAt pl i).b, 0, none⟩), .int .i64 sq]
        have y0 := rbx.cell 0
        simp only [List.getElem?_cons_zero] at y0
        have HW2 := Lib.hid (HW.out.trans (hbx.mono HW.out.size))
        have Q12 := Lib.hid (Q1.out.below hbx)
        have Q22 := Lib.hid (Q2.out.below hbx)
        have RX := Lib.hid rbx
        by_cases hij : i = j
        · subst hij
          have HST := Lib.hid (dirtyN_self (k := k) hx)
          rw [← HPB.out] at HW2 Q12 Q22 x0 y0
          clear hx hbx rbx pq hr RX
          have heq := eql_same (wr.alloc (.cells #[.pointer (some ⟨pb, 0, none⟩), .int .i64 sq] 78)) pb
          go_wp2_with fail
          exact ⟨⟨s + 1, by omega, rfl, by rw [HST.out], HW2, Q12, by rw [HST.out]; exact Q22⟩, by show n - ((s : Int) + 1).toNat < n - (s : Int).toNat; omega⟩
        · have HST := Lib.hid (dirtyN_other (k := k) hx hij hr)
          obtain ⟨rj, hrj⟩ : ∃ z, M.all[j]? = some z := ⟨_, List.getElem?_eq_getElem HJ.out⟩
          have hbne : ¬ (plAt pl i).b = pb := by
            have := (H.out.dst i j _ _ hij pq (H.out.place hrj).1).1
            rw [HPB.out]
            exact this
          have HA := Lib.hid (((H.out.below HW.out).below hbx).place hr).2
          have HOP := Lib.hid (HI.out.ops i r hr)
          have HRJ := Lib.hid hrj
          have HBX := Lib.hid hbx
          clear hx rbx pq hr hrj hbx
          obtain ⟨qb, hqb⟩ : ∃ z, z = plAt pl i := ⟨_, rfl⟩
          rw [← hqb] at hbne HA HW2 Q12 Q22 x0 y0 RX HBX
          clear hqb
          have hrj2 := ((H.out.below HW.out).below HBX.out).place HRJ.out
          have heq := eql_other HA.out.row (by have := hrj2.2.row; rw [← HPB.out] at this; exact this) hbne
          clear hrj2
          obtain ⟨⟨ok, ot, ob⟩, hlv⟩ : ∃ z, z = lastV r k := ⟨_, rfl⟩
          obtain ⟨okd, oky, ofd, ova⟩ := ok
          have HLV := Lib.hid (show lastR (lastV r k) = .tuple #[.agg #[.int .i64 okd, .string oky, .bool ofd, .string ova], .int .i64 ot, .bool ob] by rw [← hlv]; rfl)
          rw [← hlv] at HST
          clear hlv
          go_wp2_with fail
          refine (last_any r qb i k _ HA.out HOP.out.1 HOP.out.2).mono ?_
          rintro e w3 ⟨he, b3⟩
          rw [HLV.out] at he
          subst he
          have RX3 := Lib.hid (RX.out.below b3)
          have HW3 := Lib.hid (HW2.out.trans (b3.mono HW2.out.size))
          have Q13 := Lib.hid (Q12.out.below b3)
          have Q23 := Lib.hid (Q22.out.below b3)
          clear b3 heq y0
          obtain ⟨⟨⟨bkd, bky, bfd, bva⟩, bwh⟩, hbest⟩ : ∃ z, z = dirtyN M j k s := ⟨_, rfl⟩
          rw [← hbest] at HST Q23 ⊢
          have hb4 := (Below.refl w3.heap.size w3).alloc (Nat.le_refl _) (.cells #[.int .i64 okd, .string oky, .bool ofd, .string ova] 67)
          have rb4 := RowAt.new w3 67 [.int .i64 okd, .string oky, .bool ofd, .string ova]
          have z0 := rb4.cell 0
          have z1 := rb4.cell 1
          have z2 := rb4.cell 2
          have z3 := rb4.cell 3
          simp only [List.getElem?_cons_zero, List.getElem?_cons_succ] at z0 z1 z2 z3
          have HW4 := Lib.hid (HW3.out.trans (hb4.mono HW3.out.size))
          have Q14 := Lib.hid (Q13.out.below hb4)
          have Q24 := Lib.hid (Q23.out.below hb4)
          have zc := Q24.out.cell
          have zf := Q24.out.frozen
          simp only [MOp.cells] at zc
          clear hb4 rb4 hbest
          cases ob with
          | false =>
            have HS2 := Lib.hid (HST.out.trans (if_neg (fun h => by cases h.1)))
            go_wp2_with fail
            exact ⟨⟨s + 1, by omega, rfl, by rw [HS2.out], HW4, Q14, by rw [HS2.out]; exact Q24⟩, by show n - ((s : Int) + 1).toNat < n - (s : Int).toNat; omega⟩
          | true =>
            by_cases hgt : bwh < ot
            · have HS2 := Lib.hid (HST.out.trans (if_pos ⟨rfl, hgt⟩))
              have hd : decide (ot > bwh) = true := decide_eq_true hgt
              go_wp2_with fail
              refine ⟨⟨s + 1, by omega, rfl, by rw [HS2.out], Lib.hid ?_, Lib.hid ?_, Lib.hid ?_⟩, by show n - ((s : Int) + 1).toNat < n - (s : Int).toNat; omega⟩
              · exact (((HW4.out.setCell (p := ⟨w.heap.size + 1, 0, none⟩) (Nat.le_succ _) _).setCell (p := ⟨w.heap.size + 1, 1, none⟩) (Nat.le_succ _) _).setCell (p := ⟨w.heap.size + 1, 2, none⟩) (Nat.le_succ _) _).setCell (p := ⟨w.heap.size + 1, 3, none⟩) (Nat.le_succ _) _
              · exact (((Q14.out.far (p := ⟨w.heap.size + 1, 0, none⟩) (Nat.ne_of_lt (Nat.lt_succ_self _)) _).far (p := ⟨w.heap.size + 1, 1, none⟩) (Nat.ne_of_lt (Nat.lt_succ_self _)) _).far (p := ⟨w.heap.size + 1, 2, none⟩) (Nat.ne_of_lt (Nat.lt_succ_self _)) _).far (p := ⟨w.heap.size + 1, 3, none⟩) (Nat.ne_of_lt (Nat.lt_succ_self _)) _
              · rw [HS2.out]
                exact set4_row Q24.out _ _ _ _
            · have HS2 := Lib.hid (HST.out.trans (if_neg (fun h => hgt h.2)))
              have hd : decide (ot > bwh) = false := decide_eq_false hgt
              go_wp2_with fail
              exact ⟨⟨s + 1, by omega, rfl, by rw [HS2.out], HW4, Q14, by rw [HS2.out]; exact Q24⟩, by show n - ((s : Int) + 1).toNat < n - (s : Int).toNat; omega⟩
    · obtain rfl : s = n := by omega
      rw [← HRES.out] at Q2 ⊢
      obtain ⟨⟨bkd, bky, bfd, bva⟩, bwh⟩ := res
      have z0 := Q2.out.cell 0
      have z1 := Q2.out.cell 1
      have z2 := Q2.out.cell 2
      have z3 := Q2.out.cell 3
      simp only [MOp.cells, List.getElem?_cons_zero, List.getElem?_cons_succ] at z0 z1 z2 z3
      have zc := Q1.out.cell
      have zf := Q1.out.frozen
      simp only [MOp.cells, MOp.zero] at zc
      go_wp2
      have r9 := (Q1.out.wset (MOp.cells ⟨bkd, bky, bfd, bva⟩) 0).congr (cs' := MOp.cells ⟨bkd, bky, bfd, bva⟩) rfl
      refine bodyPost_ret (results_ct (T := 67) Try.results47 _ rfl r9 Try.underlying67 rfl (by kernel_rfl)) rfl ⟨rfl, ?_⟩
      exact (((HW.out.setCell (Nat.le_refl _) _).setCell (Nat.le_refl _) _).setCell (Nat.le_refl _) _).setCell (Nat.le_refl _) _

end Go.Proofs.Ytfodagidmdbmlaa
