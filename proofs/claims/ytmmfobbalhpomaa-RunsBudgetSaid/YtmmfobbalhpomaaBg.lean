/- The law of the budget: the walk. -/
import Derived.Test.YtmmfobbalhpomaaSs
namespace Go.Proofs.Ytmmfobbalhpomaa
set_option linter.unusedVariables false
set_option linter.unusedSimpArgs false
open Go.RowKit

set_option maxRecDepth 100000 in
set_option maxHeartbeats 12800000 in
theorem budget_walk (bud : Int) (A : Option Addr) (m cap : Nat) (xs : List Row) (hm : xs.length = m) (hml : m ≤ maxLen) (w : World) (hR : SliceRd w A 7 Row.cells xs) :
    Calls Try.prog 5 #[.int .i64 bud, .slice A m cap] w fun e w' => e = .returned (.bool true) ∧ Below w.heap.size w w' := by
  have HR := Lib.hid hR
  have hml' : m ≤ 9223372036854775807 := by unfold maxLen at hml; omega
  have hnot : ∀ (x : Bool) (w : World), (Op.unary .not (.bool x)).run Try.prog w = .ok (.bool (!x)) w := fun _ _ => rfl
  clear hR hml
  have hcase : bud < 1 ∨ (¬ bud < 1 ∧ 16777216 < bud) ∨ (¬ bud < 1 ∧ ¬ 16777216 < bud) := by omega
  go_enter Try.func5, Try.ntmps5
  go_wp2_with fail
  refine (anchor_any _).mono ?_
  rintro e w0 ⟨rfl, bb0⟩
  have B0 := Lib.hid bb0
  have hs0 := bb0.size
  clear bb0
  rcases hcase with k1 | ⟨k1, k2⟩ | ⟨k1, k2⟩
  · go_wp2
    go_ret
    exact ⟨rfl, B0.out⟩
  · go_wp2
    go_ret
    exact ⟨rfl, B0.out⟩
  · go_wp2_with fail
    refine (new_any 1 bud (.inl rfl) (by omega) (by omega) w0).mono ?_
    rintro e w1 ⟨rfl, h1, b1⟩
    have H1 := Lib.hid h1
    have B1 := Lib.hid (B0.out.trans (b1.mono hs0))
    clear h1 b1
    go_wp2
    go_loopw [35, 7, 8, 9] (fun s a c d wr => ∃ (j : Nat) (y pk : Int) (v : Value) (rows : List Row), s = .int .i64 j ∧ a = .int .i64 y ∧ c = .int .i64 rows.length ∧ d = .int .i64 pk ∧ j ≤ m ∧ y ≤ pk ∧ pk ≤ bud ∧ Hid (BP wr w0.heap.size w0.heap.size 1 bud y pk v rows) ∧ Hid (Below w.heap.size w wr)) (fun s _ _ _ _ => m - (intOf s).toNat)
    case atStart => exact ⟨0, 0, 0, .slice none 0 0, [], rfl, rfl, rfl, rfl, by omega, by omega, by omega, H1.out, B1.out⟩
    case round =>
      clear H1 B1
      obtain ⟨j, y, pk, v, rows, rfl, rfl, rfl, rfl, hj, hyp, hpb, HP, HB⟩ := hrel
      have hlen := HP.out.len
      have hle := HP.out.le
      obtain ⟨n, hn⟩ : ∃ n, n = rows.length := ⟨_, rfl⟩
      rw [← hn] at hlen ⊢
      have HN := Lib.hid hn
      clear hn
      have hy0 : 0 ≤ y := by omega
      have hnb : n < 16777217 := by omega
      by_cases hlt : j < m
      · obtain ⟨r, hx⟩ : ∃ a, xs[j]? = some a := ⟨_, List.getElem?_eq_getElem (by omega)⟩
        obtain ⟨b, off, rfl, hb, hc⟩ := (HR.out.below HB.out).at hx
        have c0 := hc 0 (by omega)
        have c1 := hc 1 (by omega)
        have c2 := hc 2 (by omega)
        have c3 := hc 3 (by omega)
        have c4 := hc 4 (by omega)
        have c5 := hc 5 (by omega)
        have c6 := hc 6 (by omega)
        obtain ⟨z, hz⟩ : ∃ z, z = sizeF r := ⟨_, rfl⟩
        have hsz := sizeF_le r
        rw [← hz] at hsz
        have HZ := Lib.hid hz
        have HSZ := Lib.hid hsz
        obtain ⟨ok, hok⟩ : ∃ q, q = r.ok := ⟨_, rfl⟩
        have HOK := Lib.hid hok
        have BX := Lib.hid (RowAt.new wr 30 r.cells)
        have BB := Lib.hid (HB.out.alloc HB.out.size (.cells r.cells.toArray 30))
        have HPa := Lib.hid (HP.out.below ((Below.refl wr.heap.size wr).alloc (Nat.le_refl _) (.cells r.cells.toArray 30)))
        have hbl := HP.out.head.lt
        have hvn : v.ownBlock ≠ some wr.heap.size := fun e => by have := (HP.out.own.base _ e).2; omega
        obtain ⟨kx, tx, sx, ix, fx, ox, bx⟩ := r
        simp only [Row.cells, List.getElem?_cons_zero, List.getElem?_cons_succ, Nat.add_zero] at c0 c1 c2 c3 c4 c5 c6 BX BB HPa
        clear hc hx hz hsz hok HP HB
        go_wp2_with fail
        refine (size_any ⟨kx, tx, sx, ix, fx, ox, bx⟩ _).mono ?_
        rintro e w3 ⟨rfl, hb3⟩
        rw [← HZ.out]
        have BX3 := Lib.hid (BX.out.below hb3)
        have B3 := Lib.hid (BB.out.trans (hb3.mono BB.out.size))
        have HP3 := Lib.hid (HPa.out.below hb3)
        have hs3 := hb3.size
        have x3 := BX3.out.cell
        clear hb3 c0 c1 c2 c3 c4 c5 c6 BX BB HPa
        go_wp2_with fail
        have hbs3 : w0.heap.size ≤ w3.heap.size := Nat.le_of_lt HP3.out.head.lt
        refine (add_any w0.heap.size w0.heap.size 1 bud y pk v rows ⟨kx, tx, sx, ix, fx, ox, bx⟩ w3 HP3.out hbs3).mono ?_
        unfold AddPost
        obtain ⟨res, hres⟩ : ∃ q, q = addC bud y ⟨kx, tx, sx, ix, fx, ox, bx⟩ := ⟨_, rfl⟩
        rw [← hres]
        have HRes := Lib.hid hres
        clear hres
        rintro e w4 ⟨rfl, hif, t4⟩
        have hbel : ∀ i, i < w.heap.size → ¬ (i = w0.heap.size ∨ v.ownBlock = some i) := fun i hi e => by
          rcases e with e | e
          · omega
          · have := (HP3.out.own.base i e).1; omega
        have B4 := Lib.hid (B3.out.trans (t4.below B3.out.size hbel))
        have hxw : wr.heap.size < w3.heap.size := BX3.out.lt
        have hIF := Lib.hid hif
        have hT4 := Lib.hid t4
        clear t4 hbel hif
        cases ok with
        | false =>
          have e0 : res = 90 := by rw [HRes.out, addC, if_neg (by rw [← HOK.out]; decide)]
          subst e0
          have h4 := hIF.out
          rw [if_neg (by decide)] at h4
          have HP4 := Lib.hid h4
          clear h4 hIF
          have x4 := (BX3.out.turn hT4.out (fun e => by rcases e with e | e; exact absurd e (by omega); exact hvn e)).cell
          clear x3 hT4 hvn
          try simp only [List.getElem?_cons_zero] at x4
          go_wp2_with fail
          refine (valid_any ⟨kx, tx, sx, ix, fx, ox, bx⟩ _).mono ?_
          rintro e w5 ⟨rfl, hb5⟩
          rw [← HOK.out]
          have HP5 := Lib.hid (HP4.out.below hb5)
          have B5 := Lib.hid (B4.out.trans (hb5.mono B4.out.size))
          clear hb5 x4
          go_wp2_with fail
          refine (bytes_any _ _ _ _ _ _ _ _ _ HP5.out).mono ?_
          rintro e w7 ⟨rfl, rfl⟩
          go_wp2_with fail
          refine (len_any _ _ _ _ _ _ _ _ _ HP5.out).mono ?_
          rintro e w8 ⟨rfl, rfl⟩
          rw [← HN.out]
          go_wp2_with fail
          refine (peak_any _ _ _ _ _ _ _ _ _ HP5.out).mono ?_
          rintro e w9 ⟨rfl, rfl⟩
          go_wp2
          go_roundw
          case rel => exact ⟨j + 1, y, pk, v, rows, by go_num, rfl, by rw [← HN.out], rfl, by omega, by omega, by omega, HP5.out, B5.out⟩
          case measure => simp [intOf]; omega
        | true =>
          have hz7 := HSZ.out.1 HOK.out.symm
          have er : res = if bud < z then 101 else if bud < y + z then 102 else 0 := by rw [HRes.out, addC, if_pos HOK.out.symm, ← HZ.out]
          by_cases h1 : bud < z
          · have e0 : res = 101 := by rw [er, if_pos h1]
            clear er
            subst e0
            have h4 := hIF.out
            rw [if_neg (by decide)] at h4
            have HP4 := Lib.hid h4
            clear h4 hIF
            have hd : ¬ (z ≤ bud) := by omega
            rw [HN.out] at *
            go_wp2_with fail
            refine (bytes_any _ _ _ _ _ _ _ _ _ HP4.out).mono ?_
            rintro e w7 ⟨rfl, rfl⟩
            go_wp2_with fail
            refine (len_any _ _ _ _ _ _ _ _ _ HP4.out).mono ?_
            rintro e w8 ⟨rfl, rfl⟩
            go_wp2_with fail
            refine (peak_any _ _ _ _ _ _ _ _ _ HP4.out).mono ?_
            rintro e w9 ⟨rfl, rfl⟩
            go_wp2
            go_roundw
            case rel => exact ⟨j + 1, y, pk, v, rows, by go_num, rfl, by simp, rfl, by omega, by omega, by omega, HP4.out, B4.out⟩
            case measure => simp [intOf]; omega
          · by_cases h2 : bud < y + z
            · have e0 : res = 102 := by rw [er, if_neg h1, if_pos h2]
              clear er
              subst e0
              have h4 := hIF.out
              rw [if_neg (by decide)] at h4
              have HP4 := Lib.hid h4
              clear h4 hIF
              go_wp2_with fail
              refine (take_any _ _ _ _ _ _ _ _ _ HP4.out).mono ?_
              rintro e w6 ⟨v6, out, rfl, hs6, ho6, h6, t6⟩
              have hol := hs6.length
              rw [← HN.out] at hol
              obtain ⟨A6, c6, hv6⟩ := ho6.form
              rw [List.length_map, hol] at hv6
              subst hv6
              have HP6 := Lib.hid h6
              have B6 := Lib.hid (B4.out.trans (t6.below B4.out.size fun i hi e => by have e' : i = w0.heap.size := e; omega))
              clear hs6 ho6 h6 t6 hol
              go_wp2_with fail
              refine (bytes_any _ _ _ _ _ _ _ _ _ HP6.out).mono ?_
              rintro e w7 ⟨rfl, rfl⟩
              go_wp2_with fail
              refine (len_any _ _ _ _ _ _ _ _ _ HP6.out).mono ?_
              rintro e w8 ⟨rfl, rfl⟩
              go_wp2_with fail
              refine (peak_any _ _ _ _ _ _ _ _ _ HP6.out).mono ?_
              rintro e w9 ⟨rfl, rfl⟩
              go_wp2
              go_roundw
              case rel => exact ⟨j + 1, 0, pk, .slice none 0 0, [], by go_num, rfl, by simp, rfl, by omega, by omega, by omega, HP6.out, B6.out⟩
              case measure => simp [intOf]; omega
            · have e0 : res = 0 := by rw [er, if_neg h1, if_neg h2]
              clear er
              subst e0
              have h4 := hIF.out
              rw [if_pos rfl] at h4
              obtain ⟨v4, pk4, h4, -, hpk4⟩ := h4
              rw [← HZ.out] at h4 hpk4
              have hln : (rows ++ [(⟨kx, tx, sx, ix, fx, ox, bx⟩ : Row)]).length = n + 1 := by rw [List.length_append, ← HN.out]; rfl
              have HP4 := Lib.hid h4
              have HLn := Lib.hid hln
              clear h4 hIF hln
              by_cases hpm : pk < y + z
              · rw [if_pos hpm] at hpk4
                subst hpk4
                go_wp2_with fail
                refine (bytes_any _ _ _ _ _ _ _ _ _ HP4.out).mono ?_
                rintro e w7 ⟨rfl, rfl⟩
                go_wp2_with fail
                refine (len_any _ _ _ _ _ _ _ _ _ HP4.out).mono ?_
                rintro e w8 ⟨rfl, rfl⟩
                rw [HLn.out]
                go_wp2_with fail
                refine (peak_any _ _ _ _ _ _ _ _ _ HP4.out).mono ?_
                rintro e w9 ⟨rfl, rfl⟩
                go_wp2
                go_roundw
                case rel => exact ⟨j + 1, y + z, y + z, v4, rows ++ [(⟨kx, tx, sx, ix, fx, ox, bx⟩ : Row)], by go_num, rfl, by rw [HLn.out]; simp, rfl, by omega, by omega, by omega, HP4.out, B4.out⟩
                case measure => simp [intOf]; omega
              · rw [if_neg hpm] at hpk4
                subst hpk4
                go_wp2_with fail
                refine (bytes_any _ _ _ _ _ _ _ _ _ HP4.out).mono ?_
                rintro e w7 ⟨rfl, rfl⟩
                go_wp2_with fail
                refine (len_any _ _ _ _ _ _ _ _ _ HP4.out).mono ?_
                rintro e w8 ⟨rfl, rfl⟩
                rw [HLn.out]
                go_wp2_with fail
                refine (peak_any _ _ _ _ _ _ _ _ _ HP4.out).mono ?_
                rintro e w9 ⟨rfl, rfl⟩
                go_wp2
                go_roundw
                case rel => exact ⟨j + 1, y + z, pk4, v4, rows ++ [(⟨kx, tx, sx, ix, fx, ox, bx⟩ : Row)], by go_num, rfl, by rw [HLn.out]; simp, rfl, by omega, by omega, by omega, HP4.out, B4.out⟩
                case measure => simp [intOf]; omega
      · have e : j = m := by omega
        subst e
        go_wp2
        go_ret
        exact ⟨rfl, HB.out⟩
end Go.Proofs.Ytmmfobbalhpomaa
