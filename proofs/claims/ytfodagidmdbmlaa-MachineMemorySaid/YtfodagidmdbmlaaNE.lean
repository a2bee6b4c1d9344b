/- MachineFirst, told by the machine alone. -/
import Derived.Test.YtfodagidmdbmlaaNC
namespace Go.Proofs.Ytfodagidmdbmlaa
set_option linter.unusedVariables false
set_option linter.unusedSimpArgs false
open Go.RowKit

theorem free_cnt {M : Mach} (h : MOK M) (hl : M.sess.length = 4) (hf : freeB M = true) : (freeM M).all.length ≤ 4004 := by
  obtain ⟨h1, -, h3⟩ := freeM_frame h
  unfold freeB at hf
  simp only [Bool.and_eq_true, Bool.not_eq_true', decide_eq_true_eq] at hf
  obtain ⟨f1, f2, f3⟩ := hf
  have hb := h1.bal
  have hn := nAct_le (freeM M).sess
  omega
def bK (k : Int) : MStep := ⟨1, k, 0, ⟨#[]⟩, ⟨#[]⟩⟩
def wK (k : Int) (key v : ByteArray) : MStep := ⟨3, k, 0, key, v⟩
def cK (k : Int) : MStep := ⟨5, k, 0, ⟨#[]⟩, ⟨#[]⟩⟩
def aK (k : Int) : MStep := ⟨6, k, 0, ⟨#[]⟩, ⟨#[]⟩⟩
theorem bK_formed (k : Nat) : Formed (bK k) k := ⟨rfl, (show (0 : Int) ≤ 0 ∧ (0 : Int) ≤ 1000 by decide), (show (1 : Int) ≤ 1 ∧ (1 : Int) ≤ 6 by decide), fun h => absurd h (show ¬ ((2 : Int) ≤ 1 ∧ (1 : Int) ≤ 4) by decide), fun h => absurd h (show ¬ (1 : Int) = 3 by decide)⟩
theorem wK_formed {k : Nat} {key v : ByteArray} (hk : 1 ≤ key.size ∧ key.size ≤ 8) (hv : v.size ≤ 16) : Formed (wK k key v) k := ⟨rfl, (show (0 : Int) ≤ 0 ∧ (0 : Int) ≤ 1000 by decide), (show (1 : Int) ≤ 3 ∧ (3 : Int) ≤ 6 by decide), fun _ => hk, fun _ => hv⟩
theorem cK_formed (k : Nat) : Formed (cK k) k := ⟨rfl, (show (0 : Int) ≤ 0 ∧ (0 : Int) ≤ 1000 by decide), (show (1 : Int) ≤ 5 ∧ (5 : Int) ≤ 6 by decide), fun h => absurd h (show ¬ ((2 : Int) ≤ 5 ∧ (5 : Int) ≤ 4) by decide), fun h => absurd h (show ¬ (5 : Int) = 3 by decide)⟩
/-- A step of another session leaves an idle session idle. -/
theorem idle_other {M : Mach} (hi : MInv M) {k : Nat} {q : Int} (h : M.sess[k]? = some (none, q)) {s : MStep} (hs : s.session ≠ (k : Int)) : (doF M s).1.sess[k]? = some (none, q) := by
  by_cases hr : refuseF M s = 0
  · obtain ⟨k', ht⟩ := taken hr
    have es : s.session.toNat = k' := by rw [ht.ses]; exact Int.toNat_natCast k'
    have hkk : k' ≠ k := fun e => hs (by rw [ht.ses, e])
    have st : ∀ (x : Option Nat × Int), (M.sess.set k' x)[k]? = some (none, q) := fun x => by rw [List.getElem?_set, if_neg hkk]; exact h
    by_cases e1 : s.kind = 1
    · rw [doF_1 hr e1 es rfl]; exact st _
    · obtain ⟨j', q', r', hx, hj, hrs, hcj, hcr, hops⟩ := taken_some hi hr e1 ht
      by_cases e2 : s.kind = 2
      · rw [doF_2 hr e2 es hcj hcr rfl]; exact h
      by_cases e3 : s.kind = 3
      · rw [doF_3 hr e3 es hcj hcr]; exact h
      by_cases e4 : s.kind = 4
      · rw [doF_4 hr e4 es hcj hcr]; exact h
      by_cases e5 : s.kind = 5
      · rw [doF_5 hr e5 es hcj hcr rfl]; exact st _
      · rw [doF_6 hr (by have := ht.kind; omega) es hcj]; exact st _
  · rw [doF_no hr]; exact h
/-- A write of session k. -/
theorem curK_write {M : Mach} {k j : Nat} {r : Run} {key v : ByteArray} (h : Cur M k j r) (hk : 1 ≤ key.size ∧ key.size ≤ 8) (hv : v.size ≤ 16) (hl : r.ops.length < 16) (hc : M.clock + 1 ≤ 1099511627776) :
    (doF M (wK k key v)).2.2 = 0 ∧ Cur (doF M (wK k key v)).1 k j (r.add ⟨2, key, true, v⟩ (M.clock + 1 + 0)) ∧ (doF M (wK k key v)).1.clock = M.clock + 1 + 0 ∧ (doF M (wK k key v)).1.st = M.st ∧ (doF M (wK k key v)).1.flaw = M.flaw ∧ (doF M (wK k key v)).1.all.length = M.all.length := by
  have hr : refuseF M (wK k key v) = 0 := by rw [refuse_cur h (wK_formed hk hv) (show (3 : Int) ≠ 1 by decide) hl, if_neg (by show ¬ 1099511627776 < M.clock + 1 + 0; omega)]
  rw [doF_3 hr rfl (k := k) (Int.toNat_natCast k) h.curJ h.curR]
  exact ⟨rfl, h.put _ _, rfl, rfl, rfl, List.length_set ..⟩
/-- A commit of session k. -/
theorem curK_commit {M : Mach} (hM : MOK M) {k j : Nat} {r : Run} (h : Cur M k j r) (hl : r.ops.length < 16) (hc : M.clock + 1 ≤ 1099511627776) {b : Bool} (hb : passF (tick M 0) r = b) :
    (doF M (cK k)).2 = ((false, ⟨#[]⟩, if b then 1 else 0), 0) ∧ (doF M (cK k)).1.clock = M.clock + 1 + 0 ∧ (doF M (cK k)).1.flaw = M.flaw ∧ (doF M (cK k)).1.all.length = M.all.length ∧ ∀ key, (doF M (cK k)).1.st.2 key = if b = true ∧ wroteK r key = true then M.st.2 key ++ [leaves (M.clock + 1 + 0) j r key] else M.st.2 key := by
  have hr : refuseF M (cK k) = 0 := by rw [refuse_cur h (cK_formed k) (show (5 : Int) ≠ 1 by decide) hl, if_neg (by show ¬ 1099511627776 < M.clock + 1 + 0; omega)]
  rw [doF_5 hr rfl (k := k) (Int.toNat_natCast k) h.curJ h.curR hb]
  refine ⟨rfl, rfl, rfl, List.length_set .., fun key => ?_⟩
  exact finF_st (tick_ok hM (g := 0) (by decide) (by show M.clock + 1 + 0 ≤ _; omega)).inv b h.run (tick_low hM.inv (by decide)) key
theorem cur_beginK {M : Mach} {k : Nat} {q : Int} (hq : M.sess[k]? = some (none, q)) (hl : M.all.length < 4096) (hc : M.clock + 1 ≤ 1099511627776) :
    Cur (doF M (bK k)).1 k M.all.length ⟨(k : Int), q, M.clock + 1 + 0, 0, M.clock, 0, 0, [], []⟩ ∧ (doF M (bK k)).1.clock = M.clock + 1 + 0 ∧ (doF M (bK k)).1.st = M.st ∧ (doF M (bK k)).1.flaw = M.flaw ∧ (doF M (bK k)).1.all.length = M.all.length + 1 := by
  obtain ⟨-, h1, h2, h3, h4⟩ := cur_begin hq (bK_formed k) rfl hl (by show M.clock + 1 + 0 ≤ _; omega)
  refine ⟨h1, h2, h3, h4, ?_⟩
  have hr : refuseF M (bK k) = 0 := by rw [refuse_idle hq (bK_formed k) rfl hl, if_neg (by show ¬ 1099511627776 < M.clock + 1 + 0; omega)]
  rw [doF_1 hr rfl (Int.toNat_natCast k) rfl]
  show (M.all ++ [_]).length = _
  rw [List.length_append]
  rfl
theorem passF_one {M : Mach} {r : Run} {key v : ByteArray} (hf : M.flaw = 0) (h : r.ops = [⟨2, key, true, v⟩]) : passF M r = !(afterV (M.st.2 key) r.start).isSome := by
  unfold passF
  rw [h]
  rw [List.any_cons, List.any_nil, Bool.or_false]
  unfold lateF
  rw [hf]
  simp
theorem after_full {l : List Ver} {t : Int} (h : ∀ x ∈ l, x.commit ≤ t) : afterV l t = none := by
  unfold afterV
  rw [cut_full h]
  exact List.getElem?_eq_none (Nat.le_refl _)
theorem after_last {l : List Ver} {v : Ver} {t : Int} (h : ∀ x ∈ l, x.commit ≤ t) (hv : t < v.commit) : afterV (l ++ [v]) t = some v := by
  unfold afterV
  rw [cut_app (fun x hx => by rw [List.mem_singleton] at hx; subst hx; exact hv), cut_full h, List.getElem?_append_right (Nat.le_refl _), Nat.sub_self]
  rfl
theorem at_last {l : List Ver} {v : Ver} {t : Int} (h : ∀ x ∈ l, x.commit ≤ t) (hv : v.commit ≤ t) : atV (l ++ [v]) t = some v := by
  unfold atV
  rw [cut_full (l := l ++ [v]) (fun x hx => by
    rcases List.mem_append.1 hx with hx | hx
    · exact h x hx
    · rw [List.mem_singleton] at hx
      subst hx
      exact hv), List.length_append, List.length_singleton, if_pos (by omega), show l.length + 1 - 1 = l.length by omega, List.getElem?_append_right (Nat.le_refl _), Nat.sub_self]
  rfl
theorem one_wrote {r : Run} {key v : ByteArray} {t : Int} (ho : r.ops = []) (ht : r.times = []) : (r.add ⟨2, key, true, v⟩ t).ops = [⟨2, key, true, v⟩] ∧ wroteK (r.add ⟨2, key, true, v⟩ t) key = true ∧ ∀ c j, leaves c j (r.add ⟨2, key, true, v⟩ t) key = ⟨c, j, true, v⟩ := by
  have h1 : (r.add ⟨2, key, true, v⟩ t).ops = [⟨2, key, true, v⟩] := by show r.ops ++ [_] = _; rw [ho]; rfl
  refine ⟨h1, ?_, fun c j => ?_⟩
  · unfold wroteK
    rw [h1, List.any_cons, wrote_own key (by decide) _ _]
    rfl
  · unfold leaves
    have e : lastV (r.add ⟨2, key, true, v⟩ t) key = (⟨2, key, true, v⟩, t, true) := by rw [lastV_add (by rw [ho, ht]; rfl) ⟨2, key, true, v⟩ t key, if_pos (wrote_own key (by decide) _ _)]
    rw [e]
def vFirst : ByteArray := ⟨#[102, 105, 114, 115, 116]⟩
def vSecond : ByteArray := ⟨#[115, 101, 99, 111, 110, 100]⟩
/-- Both begin ahead of the first commit: the second is aborted. -/
theorem first_both {M : Mach} (hf : FreeOK M) (hfl : M.flaw = 0) (hcn : M.all.length ≤ 4004) {q2 : Int} (h2 : M.sess[2]? = some (none, q2)) {key : ByteArray} (hk : 1 ≤ key.size ∧ key.size ≤ 8) {A B C D E F : Mach} (hA : A = (doF M (bK 2)).1) (hB : B = (doF A (bK 3)).1) (hC : C = (doF B (wK 2 key vFirst)).1) (hD : D = (doF C (cK 2)).1) (hE : E = (doF D (wK 3 key vSecond)).1) (hF : F = (doF E (cK 3)).1) :
    (doF C (cK 2)).2 = ((false, ⟨#[]⟩, 1), 0) ∧ (doF E (cK 3)).2 = ((false, ⟨#[]⟩, 0), 0) ∧ valueF F key = (vFirst, true) := by
  obtain ⟨q3, h3⟩ := hf.idle
  have hclk := hf.clk
  obtain ⟨cA, eA, sA, fA, lA⟩ := cur_beginK (k := 2) h2 hf.cnt (by omega)
  rw [show bK ((2 : Nat) : Int) = bK 2 from rfl, ← hA] at cA eA sA fA lA
  have okA : MOK A := by rw [hA]; exact doF_ok hf.ok _
  have iA : A.sess[3]? = some (none, q3) := by rw [hA]; exact idle_other hf.ok.inv h3 (by show (2 : Int) ≠ 3; decide)
  obtain ⟨cB3, eB, sB, fB, lB⟩ := cur_beginK (k := 3) iA (by omega) (by omega)
  rw [show bK ((3 : Nat) : Int) = bK 3 from rfl, ← hB] at cB3 eB sB fB lB
  have okB : MOK B := by rw [hB]; exact doF_ok okA _
  have cB := cur_other okA.inv cA (s := bK 3) (by show (3 : Int) ≠ 2; decide)
  rw [← hB] at cB
  obtain ⟨-, cC, eC, sC, fC, lC⟩ := curK_write (key := key) (v := vFirst) cB hk (by decide) (by show 0 < 16; omega) (by omega)
  rw [show wK ((2 : Nat) : Int) key vFirst = wK 2 key vFirst from rfl, ← hC] at cC eC sC fC lC
  have okC : MOK C := by rw [hC]; exact doF_ok okB _
  have cC3 := cur_other okB.inv cB3 (s := wK 2 key vFirst) (by show (2 : Int) ≠ 3; decide)
  rw [← hC] at cC3
  obtain ⟨o1, o2, o3⟩ := one_wrote (r := ⟨((2 : Nat) : Int), q2, M.clock + 1 + 0, 0, M.clock, 0, 0, [], []⟩) (key := key) (v := vFirst) (t := B.clock + 1 + 0) rfl rfl
  have hst : C.st.2 key = M.st.2 key := by rw [sC, sB, sA]
  have old : ∀ t, M.clock ≤ t → ∀ x ∈ M.st.2 key, x.commit ≤ t := fun t ht x hx => Int.le_trans (hf.ok.inv.top key x hx) ht
  have pC : passF (tick C 0) (Run.add ⟨((2 : Nat) : Int), q2, M.clock + 1 + 0, 0, M.clock, 0, 0, [], []⟩ ⟨2, key, true, vFirst⟩ (B.clock + 1 + 0)) = true := by
    rw [passF_one (M := tick C 0) (show C.flaw = 0 by rw [fC, fB, fA, hfl]) o1, show (tick C 0).st.2 key = M.st.2 key from hst, after_full (old _ (by show M.clock ≤ M.clock + 1 + 0; omega))]
    rfl
  obtain ⟨aD, eD, fD, lD, sD⟩ := curK_commit okC cC (by rw [add_len]; show 0 + 1 < 16; omega) (by omega) pC
  rw [show cK ((2 : Nat) : Int) = cK 2 from rfl] at aD eD fD lD sD
  rw [← hD] at eD fD lD sD
  have okD : MOK D := by rw [hD]; exact doF_ok okC _
  have cD3 := cur_other okC.inv cC3 (s := cK 2) (by show (2 : Int) ≠ 3; decide)
  rw [← hD] at cD3
  have sDk : D.st.2 key = M.st.2 key ++ [⟨C.clock + 1 + 0, M.all.length, true, vFirst⟩] := by rw [sD key, if_pos ⟨rfl, o2⟩, hst, o3]
  obtain ⟨-, cE, eE, sE, fE, lE⟩ := curK_write (key := key) (v := vSecond) cD3 hk (by decide) (by show 0 < 16; omega) (by omega)
  rw [show wK ((3 : Nat) : Int) key vSecond = wK 3 key vSecond from rfl, ← hE] at cE eE sE fE lE
  have okE : MOK E := by rw [hE]; exact doF_ok okD _
  obtain ⟨p1, p2, p3⟩ := one_wrote (r := ⟨((3 : Nat) : Int), q3, A.clock + 1 + 0, 0, A.clock, 0, 0, [], []⟩) (key := key) (v := vSecond) (t := D.clock + 1 + 0) rfl rfl
  have pE : passF (tick E 0) (Run.add ⟨((3 : Nat) : Int), q3, A.clock + 1 + 0, 0, A.clock, 0, 0, [], []⟩ ⟨2, key, true, vSecond⟩ (D.clock + 1 + 0)) = false := by
    rw [passF_one (M := tick E 0) (show E.flaw = 0 by rw [fE, fD, fC, fB, fA, hfl]) p1, show (tick E 0).st.2 key = M.st.2 key ++ [⟨C.clock + 1 + 0, M.all.length, true, vFirst⟩] from by show E.st.2 key = _; rw [sE]; exact sDk, after_last (v := ⟨C.clock + 1 + 0, M.all.length, true, vFirst⟩) (old _ (by show M.clock ≤ A.clock + 1 + 0; omega)) (by show A.clock + 1 + 0 < C.clock + 1 + 0; omega)]
    rfl
  obtain ⟨aF, eF, fF, lF, sF⟩ := curK_commit okE cE (by rw [add_len]; show 0 + 1 < 16; omega) (by omega) pE
  rw [show cK ((3 : Nat) : Int) = cK 3 from rfl] at aF eF fF lF sF
  rw [← hF] at eF sF
  refine ⟨aD, aF, ?_⟩
  unfold valueF
  rw [sF key, if_neg (fun h => by cases h.1), sE, sDk, at_last (old _ (by omega)) (by show C.clock + 1 + 0 ≤ F.clock; omega)]
  rfl
/-- The second begins behind the first one's end: it commits. -/
theorem first_later {M : Mach} (hf : FreeOK M) (hfl : M.flaw = 0) (hcn : M.all.length ≤ 4004) {q2 : Int} (h2 : M.sess[2]? = some (none, q2)) {key : ByteArray} (hk : 1 ≤ key.size ∧ key.size ≤ 8) {A C D B E F : Mach} (hA : A = (doF M (bK 2)).1) (hC : C = (doF A (wK 2 key vFirst)).1) (hD : D = (doF C (cK 2)).1) (hB : B = (doF D (bK 3)).1) (hE : E = (doF B (wK 3 key vSecond)).1) (hF : F = (doF E (cK 3)).1) :
    (doF C (cK 2)).2 = ((false, ⟨#[]⟩, 1), 0) ∧ (doF E (cK 3)).2 = ((false, ⟨#[]⟩, 1), 0) ∧ valueF F key = (vSecond, true) := by
  obtain ⟨q3, h3⟩ := hf.idle
  have hclk := hf.clk
  obtain ⟨cA, eA, sA, fA, lA⟩ := cur_beginK (k := 2) h2 hf.cnt (by omega)
  rw [show bK ((2 : Nat) : Int) = bK 2 from rfl, ← hA] at cA eA sA fA lA
  have okA : MOK A := by rw [hA]; exact doF_ok hf.ok _
  have iA : A.sess[3]? = some (none, q3) := by rw [hA]; exact idle_other hf.ok.inv h3 (by show (2 : Int) ≠ 3; decide)
  obtain ⟨-, cC, eC, sC, fC, lC⟩ := curK_write (key := key) (v := vFirst) cA hk (by decide) (by show 0 < 16; omega) (by omega)
  rw [show wK ((2 : Nat) : Int) key vFirst = wK 2 key vFirst from rfl, ← hC] at cC eC sC fC lC
  have okC : MOK C := by rw [hC]; exact doF_ok okA _
  have iC : C.sess[3]? = some (none, q3) := by rw [hC]; exact idle_other okA.inv iA (by show (2 : Int) ≠ 3; decide)
  obtain ⟨o1, o2, o3⟩ := one_wrote (r := ⟨((2 : Nat) : Int), q2, M.clock + 1 + 0, 0, M.clock, 0, 0, [], []⟩) (key := key) (v := vFirst) (t := A.clock + 1 + 0) rfl rfl
  have hst : C.st.2 key = M.st.2 key := by rw [sC, sA]
  have old : ∀ t, M.clock ≤ t → ∀ x ∈ M.st.2 key, x.commit ≤ t := fun t ht x hx => Int.le_trans (hf.ok.inv.top key x hx) ht
  have pC : passF (tick C 0) (Run.add ⟨((2 : Nat) : Int), q2, M.clock + 1 + 0, 0, M.clock, 0, 0, [], []⟩ ⟨2, key, true, vFirst⟩ (A.clock + 1 + 0)) = true := by
    rw [passF_one (M := tick C 0) (show C.flaw = 0 by rw [fC, fA, hfl]) o1, show (tick C 0).st.2 key = M.st.2 key from hst, after_full (old _ (by show M.clock ≤ M.clock + 1 + 0; omega))]
    rfl
  obtain ⟨aD, eD, fD, lD, sD⟩ := curK_commit okC cC (by rw [add_len]; show 0 + 1 < 16; omega) (by omega) pC
  rw [show cK ((2 : Nat) : Int) = cK 2 from rfl] at aD eD fD lD sD
  rw [← hD] at eD fD lD sD
  have okD : MOK D := by rw [hD]; exact doF_ok okC _
  have iD : D.sess[3]? = some (none, q3) := by rw [hD]; exact idle_other okC.inv iC (by show (2 : Int) ≠ 3; decide)
  obtain ⟨cB, eB, sB, fB, lB⟩ := cur_beginK (k := 3) iD (by omega) (by omega)
  rw [show bK ((3 : Nat) : Int) = bK 3 from rfl, ← hB] at cB eB sB fB lB
  have okB : MOK B := by rw [hB]; exact doF_ok okD _
  obtain ⟨-, cE, eE, sE, fE, lE⟩ := curK_write (key := key) (v := vSecond) cB hk (by decide) (by show 0 < 16; omega) (by omega)
  rw [show wK ((3 : Nat) : Int) key vSecond = wK 3 key vSecond from rfl, ← hE] at cE eE sE fE lE
  have okE : MOK E := by rw [hE]; exact doF_ok okB _
  obtain ⟨p1, p2, p3⟩ := one_wrote (r := ⟨((3 : Nat) : Int), q3, D.clock + 1 + 0, 0, D.clock, 0, 0, [], []⟩) (key := key) (v := vSecond) (t := B.clock + 1 + 0) rfl rfl
  have topD := okD.inv.top key
  have pE : passF (tick E 0) (Run.add ⟨((3 : Nat) : Int), q3, D.clock + 1 + 0, 0, D.clock, 0, 0, [], []⟩ ⟨2, key, true, vSecond⟩ (B.clock + 1 + 0)) = true := by
    rw [passF_one (M := tick E 0) (show E.flaw = 0 by rw [fE, fB, fD, fC, fA, hfl]) p1, show (tick E 0).st.2 key = D.st.2 key from by show E.st.2 key = _; rw [sE, sB], after_full (fun x hx => by have := topD x hx; show x.commit ≤ D.clock + 1 + 0; omega)]
    rfl
  obtain ⟨aF, eF, fF, lF, sF⟩ := curK_commit okE cE (by rw [add_len]; show 0 + 1 < 16; omega) (by omega) pE
  rw [show cK ((3 : Nat) : Int) = cK 3 from rfl] at aF eF fF lF sF
  rw [← hF] at eF sF
  refine ⟨aD, aF, ?_⟩
  unfold valueF
  rw [sF key, if_pos ⟨rfl, p2⟩, p3, sE, sB, at_last (fun x hx => by have := topD x hx; omega) (by show E.clock + 1 + 0 ≤ F.clock; omega)]
  rfl

end Go.Proofs.Ytfodagidmdbmlaa
