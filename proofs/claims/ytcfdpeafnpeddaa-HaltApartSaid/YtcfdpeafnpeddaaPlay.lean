/- A play of a game. -/
import Derived.Test.YtcfdpeafnpeddaaStep
import Derived.Deep.RegionHeld3
namespace Go.Proofs.Ytcfdpeafnpeddaa
set_option linter.unusedVariables false
set_option linter.unusedSimpArgs false
open Go.Conc Go.RowKit Go.MuLone

structure HOp where
  kind : Int
  at_ : Int
  num : Int
def HOp.cells (o : HOp) : List Value := [.int .i64 o.kind, .int .i64 o.at_, .int .i64 o.num]
section
variable {w w1 w2 : World} {x x' : Pl} {v v' : Value} {r g g' cap cap' base n : Nat} {st st1 : List St}
theorem GS.bel (h : GS w1 x v r g cap w.heap.size n st) (t : Turn (gown x st.length v r g) w1 w2) (hB : Below w.heap.size w w1) : Below w.heap.size w w2 :=
  hB.trans (t.below hB.size fun i hi hx => by have := h.ge i hx; omega)
theorem GS.tell (h : GS w x v r g cap base n st) (hn : n ≤ st.length) (hb : base ≤ w.heap.size) (h1 : HT w1 x 0 st) (t1 : Turn (x.own st.length) w w1) : GS w1 x v r g cap base n st ∧ Turn (gown x st.length v r g) w w1 :=
  let q := h.step hb hn h1 h.inv t1 (fun b hb => .inl hb) (fun _ _ => rfl) (h.rt1 t1) (Turn.refl _ _) (.inl rfl)
  ⟨q.1, q.2.1⟩
theorem GS.cellAt {vb c i : Nat} (h : GS w x (.slice (some ⟨vb, 0, none⟩) n c) r g cap base n st) (hi : i < n) : w.cell? ⟨vb, i, none⟩ = some (.pointer (some ⟨x.B i, 0, none⟩)) := by
  obtain ⟨A', c', e1, hvv⟩ := h.view
  injection e1 with e1
  subst e1
  obtain ⟨b, e, hc⟩ := hvv i hi
  injection e with e
  injection e with e
  subst e
  exact hc
theorem GS.viewAt {A : Option Addr} {c : Nat} (h : GS w x (.slice A n c) r g cap base n st) : ∀ i, i < n → ∃ b, A = some ⟨b, 0, none⟩ ∧ w.cell? ⟨b, i, none⟩ = some (.pointer (some ⟨x.B i, 0, none⟩)) := by
  obtain ⟨A', c', e1, hvv⟩ := h.view
  injection e1 with e1
  rw [e1]
  exact hvv
/-- A game begins: a tree of one stop, its document, the law's list. -/
theorem GS.start (h1 : HT w x 0 st) (hl : st.length = 1) (hI : SInv st) (h2 : RT w r g cap base st) (xr : ¬ x.own st.length r) (xg : ¬ x.own st.length g) (xb : ∀ b, x.own st.length b → base ≤ b) (rb : base ≤ r) (hb : base ≤ w.heap.size) :
    GS (w.alloc (.cells #[.pointer (some ⟨x.B 0, 0, none⟩)] 23)) x (.slice (some ⟨w.heap.size, 0, none⟩) 1 1) r g cap base st.length st := by
  have bb := (Below.refl w.heap.size w).alloc (Nat.le_refl _) (.cells #[Value.pointer (some ⟨x.B 0, 0, none⟩)] 23)
  refine ⟨h1.below bb, hI, ?_, ?_, h2.below bb, xr, xg, xb, rb⟩
  · rw [hl]
    exact (RowAt.new w 23 [.pointer (some ⟨x.B 0, 0, none⟩)]).own hb (by rfl) (by unfold maxLen; omega)
  · intro k hk hx
    have hk' : w.heap.size = k := Option.some.inj hk
    have := h1.lt k hx
    omega
end
set_option maxRecDepth 100000 in
set_option maxHeartbeats 6400000 in
theorem play_any (beats : Int) (A : Option Addr) (m cap0 : Nat) (xs : List HOp) (hm : xs.length = m) (hml : m ≤ maxLen) (w : World) (hR : SliceRd w A 3 HOp.cells xs) :
    Calls Try.prog 18 #[.int .i64 beats, .slice A m cap0] w fun e w' => e = .returned (.bool true) ∧ Below w.heap.size w w' := by
  have HR := Lib.hid hR
  have hml' : m ≤ 9223372036854775807 := by unfold maxLen at hml; omega
  have hnot : ∀ (x : Bool) (w : World), (Op.unary .not (.bool x)).run Try.prog w = .ok (.bool (!x)) w := fun _ _ => rfl
  clear hR hml
  by_cases hbad : beats < 0 ∨ (¬ beats < 0 ∧ 1099511627776 < beats)
  · go_enter Try.func18, Try.ntmps18
    go_wp2_with fail
    refine (new_no beats w (by omega)).mono ?_
    rintro e w1 ⟨rfl, hb1⟩
    subst hb1
    go_wp2_with fail
    refine (dnew_no w1.heap.size beats _ (by omega)).mono ?_
    rintro e w2 ⟨rfl, rfl⟩
    go_wp2
    go_ret
    exact ⟨rfl, (Below.refl _ _).alloc (Nat.le_refl _) _⟩
  · have k1 : ¬ beats < 0 := by omega
    have k2 : ¬ 1099511627776 < beats := by omega
    clear hbad
    go_enter Try.func18, Try.ntmps18
    go_wp2_with fail
    refine (new_yes beats w (by omega) (by omega)).mono ?_
    rintro e w1 ⟨x, rfl, h1, bb1, ho⟩
    have H1 := Lib.hid h1
    have B1 := Lib.hid bb1
    have HO := Lib.hid ho
    have hs1 := bb1.size
    clear h1 bb1 ho
    go_wp2_with fail
    refine (dnew_yes w1.heap.size beats _ (RowAt.new w1 40 [.slice none 0 0]) (by omega) (by omega) w.heap.size (by simp; omega)).mono ?_
    rintro e w2 ⟨rfl, h2, t2⟩
    have hsz : (w1.alloc (.cells #[.slice none 0 0] 40)).heap.size = w1.heap.size + 1 := by simp
    have b2 : Below w1.heap.size w1 w2 := ((Below.refl w1.heap.size w1).alloc (Nat.le_refl _) (.cells #[.slice none 0 0] 40)).trans (t2.below (by omega) fun i hi e => by omega)
    have h1' := H1.out.below b2
    have hs2 := b2.size
    have hgs := GS.start h1' rfl (one_inv beats 0 (by omega) (by omega)) h2 (fun hx => by have := H1.out.lt _ hx; omega) (fun hx => by have := H1.out.lt _ hx; omega) HO.out (by omega) (by omega)
    have B2 := Lib.hid (B1.out.trans (b2.mono hs1))
    have G2 := Lib.hid hgs
    have B3 := Lib.hid (B2.out.alloc B2.out.size (.cells #[.pointer (some ⟨x.B 0, 0, none⟩)] 23))
    clear h2 t2 b2 h1' hgs hs2 hsz
    go_wp2
    go_loopw [41, 9] (fun i v wr => ∃ (j : Nat) (y : Pl) (g cap : Nat) (st : List St), i = .int .i64 j ∧ j ≤ m ∧ Hid (GS wr y v w1.heap.size g cap w.heap.size st.length st) ∧ Hid (Below w.heap.size w wr)) (fun i _ _ => m - (intOf i).toNat)
    case atStart => exact ⟨0, x, _, _, _, rfl, by omega, G2.out, B3.out⟩
    case round =>
      obtain ⟨j, y, g, cap, st, rfl, hj, HG, HB⟩ := hrel
      obtain ⟨vA, vc, rfl, hvv⟩ := HG.out.view
      by_cases hlt : j < m
      · obtain ⟨op, hx⟩ : ∃ op, xs[j]? = some op := ⟨_, List.getElem?_eq_getElem (by omega)⟩
        obtain ⟨b, off, rfl, hb, hc⟩ := (HR.out.below HB.out).at hx
        obtain ⟨ok, oa, on⟩ := op
        have c0 := hc 0 (by omega)
        have c1 := hc 1 (by omega)
        have c2 := hc 2 (by omega)
        simp only [HOp.cells, List.getElem?_cons_zero, List.getElem?_cons_succ, Nat.add_zero] at c0 c1 c2
        clear hc hvv
        go_wp2_with fail
        have hB1 := HB.out.alloc HB.out.size (.cells #[.int .i64 ok, .int .i64 oa, .int .i64 on] 45)
        refine (step_any y _ w1.heap.size g cap w.heap.size st ok oa on _ (HG.out.below ((Below.refl _ _).alloc (Nat.le_refl _) _)) hB1.size).mono ?_
        rintro e w4 ⟨y', v', g', cap', st', rfl, hg4, t4, -⟩
        have HG4 := Lib.hid hg4
        have HB4 := Lib.hid ((HG.out.below ((Below.refl _ _).alloc (Nat.le_refl _) _)).bel t4 hB1)
        clear hg4 t4 hB1 HB HG
        go_wp2
        go_roundw
        case rel => exact ⟨j + 1, y', g', cap', st', by go_num, by omega, HG4.out, HB4.out⟩
        case measure => simp [intOf]; omega
      · clear hvv
        have hcap := HG.out.rt.caps
        have hle := HG.out.inv.le
        have hqh := HG.out.rt.head_cell
        obtain ⟨n, hn⟩ : ∃ n, n = st.length := ⟨_, rfl⟩
        have HN := Lib.hid hn
        rw [← hn] at hcap hle hqh
        rw [← hn] at HG ⊢
        clear hn
        go_wp2
        clear hqh
        go_loopw [14] (fun i wx => ∃ k : Nat, i = .int .i64 k ∧ k ≤ n ∧ Hid (GS wx y (.slice vA n vc) w1.heap.size g cap w.heap.size n st) ∧ Hid (Below w.heap.size w wx)) (fun i _ => n - (intOf i).toNat)
        case atStart => exact ⟨0, rfl, by omega, HG.out, HB.out⟩
        case round =>
          obtain ⟨k, rfl, hk, HGx, HBx⟩ := hrel
          have qh := HGx.out.rt.head_cell
          rw [← HN.out] at qh
          by_cases hkn : k < n
          · obtain ⟨vb, rfl, hcell⟩ := HGx.out.viewAt k hkn
            obtain ⟨q0, q1, q2⟩ := HGx.out.rt.at (i := k) (by rw [← HN.out]; exact hkn)
            obtain ⟨sp, hsp⟩ : ∃ s, s = ns st k := ⟨_, rfl⟩
            rw [← hsp] at q0 q1 q2
            have HSP := Lib.hid hsp
            clear hsp
            go_wp2_with fail
            have hdr := HGx.out.turn ((Turn.refl (fun _ => False) _).drew) (fun _ _ => id)
            have HD := Lib.hid hdr
            have HBD := Lib.hid (HBx.out.drew)
            have hbw := HBx.out.size
            clear hdr
            go_region_held3 (fun w' => w'.cell? ⟨w1.heap.size, 0, none⟩ = some (.slice (some ⟨g, 0, none⟩) n cap) ∧ w'.cell? ⟨vb, k, none⟩ = some (.pointer (some ⟨y.B k, 0, none⟩)) ∧ w'.cell? ⟨g, k * 3, none⟩ = some (.int .i64 sp.par) ∧ w'.cell? ⟨g, k * 3 + 1, none⟩ = some (.int .i64 sp.left) ∧ w'.cell? ⟨g, k * 3 + 2, none⟩ = some (.int .i64 sp.cause))
              (first | exact ⟨qh, hcell, q0, q1, q2⟩ | exact ⟨rh3, vc3, r0, r1, r2⟩)
              (first
                | (go_at_call 21; refine (told_any y st k sp HSP.out _ HD.out.ht (by rw [← HN.out]; exact hkn)).mono ?_; rintro e3 w3 ⟨rfl, h3, t3⟩; have tl := HD.out.tell (by rw [← HN.out]; exact Nat.le_refl _) (by exact hbw) h3 t3; have G3 := Lib.hid tl.1; have B3' := Lib.hid (HD.out.bel tl.2 HBD.out); obtain ⟨r0, r1, r2⟩ := G3.out.rt.at (i := k) (by rw [← HN.out]; exact hkn); rw [← HSP.out] at r0 r1 r2; have rh3 := G3.out.rt.head_cell; rw [← HN.out] at rh3; have vc3 := G3.out.cellAt hkn; clear tl h3 t3))
            go_wp2
            go_roundw
            case rel => exact ⟨k + 1, by go_num, by omega, G3.out, B3'.out⟩
            case measure => simp [intOf]; omega
          · have e : k = n := by omega
            subst e
            go_wp2
            go_ret
            exact ⟨by simp, HBx.out⟩
set_option maxRecDepth 100000 in
set_option maxHeartbeats 1600000 in
theorem plays_walk (beats : Int) (A : Option Addr) (m cap0 : Nat) (xs : List HOp) (hm : xs.length = m) (hml : m ≤ maxLen) (w : World) (hR : SliceRd w A 3 HOp.cells xs) :
    Calls Try.prog 7 #[.int .i64 beats, .slice A m cap0] w fun e w' => e = .returned (.bool true) ∧ Below w.heap.size w w' := by
  have HR := Lib.hid hR
  clear hR
  go_enter Try.func7, Try.ntmps7
  go_wp2_with fail
  refine (anchor_any _).mono ?_
  rintro e w0 ⟨rfl, bb0⟩
  have B0 := Lib.hid bb0
  clear bb0
  go_wp2_with fail
  refine (play_any beats A m cap0 xs hm hml w0 (HR.out.below B0.out)).mono ?_
  rintro e w1 ⟨rfl, bb1⟩
  have B1 := Lib.hid (B0.out.trans (bb1.mono B0.out.size))
  clear bb1
  go_wp2
  go_ret
  exact ⟨rfl, B1.out⟩
end Go.Proofs.Ytcfdpeafnpeddaa
