/- The tree of losers as a list of sources: what its methods answer, told by that list alone. -/
import Derived.Test.YtgcfpepaapdjoaaV
namespace Go.Proofs.Ytgcfpepaapdjoaa
set_option linter.unusedVariables false
set_option linter.unusedSimpArgs false
open Go.RowKit

/-- The numbers in the tree tell the truth of the sources. -/
def Told (o : Int) (xs : List Src) (t : LT) : Prop := t.win = W o xs 1 ∧ ∀ m, 1 ≤ m → m < xs.length → t.loser.getD m 0 = L o xs m
structure LT.Inv (t : LT) : Prop where
  fit : t.Fit
  st : ∀ i, i < t.src.length → (at' t.src i).st = 0 ∨ Full (at' t.src i)
  now : (t.built = false ∧ t.opn = -1) ∨ (t.built = true ∧ t.opn = -1 ∧ AllFull t.src ∧ Told t.order t.src t) ∨
    (t.built = true ∧ t.opn = t.win ∧ ∃ xs, AllFull xs ∧ xs.length = t.src.length ∧ Told t.order xs t ∧ (∀ j, j ≠ t.win → at' t.src j = at' xs j))
theorem at'_set (xs : List Src) (i j : Nat) (s : Src) (hi : i < xs.length) : at' (xs.set i s) j = if j = i then s else at' xs j := by
  unfold at'
  rw [List.getD_eq_getElem?_getD, List.getD_eq_getElem?_getD]
  by_cases e : j = i
  · subst e
    rw [if_pos rfl, List.getElem?_set_self hi]
    rfl
  · rw [if_neg e, List.getElem?_set_ne (fun h => e h.symm)]
theorem anyWait_false {xs : List Src} (h : anyWait xs = false) : ∀ i, i < xs.length → (at' xs i).st ≠ 0 := by
  intro i hi
  unfold anyWait at h
  rw [List.any_eq_false] at h
  have := h (at' xs i) (by rw [List.mem_iff_getElem?]; exact ⟨i, at'_some hi⟩)
  simpa using this
theorem anyWait_true {xs : List Src} (h : anyWait xs = true) : ∃ i, i < xs.length ∧ (at' xs i).st = 0 := by
  unfold anyWait at h
  rw [List.any_eq_true] at h
  obtain ⟨s, hs, he⟩ := h
  obtain ⟨j, hj⟩ := List.mem_iff_getElem?.1 hs
  have hjl : j < xs.length := (List.getElem?_eq_some_iff.1 hj).1
  rw [at'_some hjl] at hj
  injection hj with hj
  exact ⟨j, hjl, by rw [hj]; simpa using he⟩
/-- A waiting source is fed or finished. -/
theorem LT.Inv.fed {t : LT} (h : t.Inv) {n : Nat} (hn : n < t.src.length) (hw : (at' t.src n).st = 0) {s : Src} (hs : Full s) : (t.fed n s).Inv := by
  have e : (t.fed n s).src = t.src.set n s := by simp [LT.fed]
  have el : (t.fed n s).src.length = t.src.length := by rw [e]; simp
  refine ⟨⟨?_, ?_, ?_⟩, ?_, ?_⟩
  · intro m; rw [el]; exact h.fit.los m
  · rw [el]; exact h.fit.win
  · rw [el]; exact h.fit.opn
  · intro i hi
    rw [el] at hi
    rw [e, at'_set _ _ _ _ hn]
    split
    · exact .inr hs
    · exact h.st i hi
  · rcases h.now with h1 | ⟨_, _, h3, _⟩ | ⟨h1, h2, xs, h3, h4, h5, h6⟩
    · exact .inl h1
    · have := h3 n hn
      unfold Full at this
      omega
    · refine .inr (.inr ⟨h1, h2, xs, h3, by rw [h4, el], h5, ?_⟩)
      have hnw : n = t.win := by
        by_cases e' : n = t.win
        · exact e'
        · have h7 := h3 n (by omega)
          rw [← h6 n e'] at h7
          unfold Full at h7
          omega
      intro j hj
      rw [e, at'_set _ _ _ _ hn, if_neg (by rw [hnw]; exact hj)]
      exact h6 j hj
/-- Behind the matches the tree tells the truth. -/
theorem LT.Inv.play {t : LT} (h : t.Inv) (ho : t.order = 1 ∨ t.order = 2) (hp : 1 ≤ t.src.length) (hl : t.loser.length = t.src.length) (hf : AllFull t.src) :
    Told t.order t.src t.play ∧ t.play.built = true ∧ t.play.loser.length = t.src.length := by
  rcases h.now with ⟨h1, _⟩ | ⟨h1, h2, _, h4⟩ | ⟨h1, h2, xs, h3, h4, h5, h6⟩
  · have e : t.play = { t with win := (buildF t.order t.src 1 t.loser).1, loser := (buildF t.order t.src 1 t.loser).2, built := true } := by unfold LT.play; rw [if_pos h1]
    obtain ⟨a, b, c, -⟩ := buildF_tells (o := t.order) _ 1 t.loser rfl (by omega) (by omega) hl
    rw [e]
    exact ⟨⟨a, fun m hm1 hm2 => c m hm2 (anc_one m hm1)⟩, rfl, b⟩
  · have e : t.play = t := by unfold LT.play; rw [if_neg (by simp [h1]), if_neg (by omega)]
    rw [e]
    exact ⟨h4, h1, hl⟩
  · have e : t.play = { t with win := (replayF t.order t.src ((t.src.length + t.opn.toNat) / 2) t.opn.toNat t.loser).1, loser := (replayF t.order t.src ((t.src.length + t.opn.toNat) / 2) t.opn.toNat t.loser).2 } := by
      unfold LT.play; rw [if_neg (by simp [h1]), if_pos (by omega)]
    have ew : t.opn.toNat = t.win := by omega
    rw [ew] at e
    have hw := h.fit.win
    obtain ⟨a, b, c⟩ := replayF_tells (i := t.win) ho hf (by omega : 1 ≤ xs.length) h4.symm h6 h5.1.symm (xs.length + t.win) t.win t.loser (by omega) (by omega) (anc_self _)
      (by rw [W_leaf (by omega)]; omega) (by omega) (fun m hm1 hm2 _ => h5.2 m hm1 hm2)
      (fun m hm1 hm2 hna => by
        rw [h5.2 m hm1 hm2]
        refine (L_off h4.symm h6 hm1 hm2 (fun ha => hna ?_)).symm
        rcases anc_half.1 ha with e' | h'
        · omega
        · exact h')
    rw [h4] at a b c
    rw [e]
    exact ⟨⟨a, c⟩, h1, b⟩

/-- What Win answers, and the sources behind it. -/
def winA (o : Int) (xs : List Src) : (Int × Row × Int) × List Src :=
  if anyWait xs then ((0, Row.zero, 113), xs)
  else if (at' xs (W o xs 1)).st = 2 then ((0, Row.zero, 114), xs)
  else (((W o xs 1 : Nat), (at' xs (W o xs 1)).row, 0), xs.set (W o xs 1) Src.zero)
theorem LT.Inv.wins {t : LT} (h : t.Inv) (ho : t.order = 1 ∨ t.order = 2) (hp : 1 ≤ t.src.length) (hl : t.loser.length = t.src.length) :
    t.winF.1 = (winA t.order t.src).1 ∧ t.winF.2.src = (winA t.order t.src).2 ∧ t.winF.2.order = t.order ∧ t.winF.2.Inv := by
  by_cases hw : anyWait t.src = true
  · have e1 : t.winF = ((0, Row.zero, 113), t) := by unfold LT.winF; rw [if_pos hw]
    have e2 : winA t.order t.src = ((0, Row.zero, 113), t.src) := by unfold winA; rw [if_pos hw]
    rw [e1, e2]
    exact ⟨rfl, rfl, rfl, h⟩
  · have hw' : anyWait t.src = false := by simpa using hw
    have hf : AllFull t.src := fun i hi => by
      rcases h.st i hi with h1 | h1
      · exact absurd h1 (anyWait_false hw' i hi)
      · exact h1
    obtain ⟨⟨a1, a2⟩, a3, a4⟩ := h.play ho hp hl hf
    have pw : t.play.win < t.src.length := t.play_win h.fit hp hl
    have hlos : ∀ m, t.play.loser.getD m 0 < t.src.length := by
      intro m
      rcases h.now with ⟨h1, _⟩ | ⟨h1, h2, _, _⟩ | ⟨h1, h2, _⟩
      · by_cases hm : 1 ≤ m ∧ m < t.src.length
        · rw [a2 m hm.1 hm.2]; exact L_lt hm.1 hm.2
        · by_cases h0 : m = 0
          · subst h0
            have e : t.play.loser = (buildF t.order t.src 1 t.loser).2 := by unfold LT.play; rw [if_pos h1]
            obtain ⟨-, -, -, d⟩ := buildF_tells (o := t.order) _ 1 t.loser rfl (by omega) (by omega) hl
            rw [e, d 0 (fun ha => by have := anc_le ha; omega)]
            exact h.fit.los 0
          · rw [List.getD_eq_getElem?_getD, List.getElem?_eq_none (by omega)]; exact hp
      · have e : t.play = t := by unfold LT.play; rw [if_neg (by simp [h1]), if_neg (by omega)]
        rw [e]; exact h.fit.los m
      · have hw := h.fit.win
        have e : t.play.loser = (replayF t.order t.src ((t.src.length + t.opn.toNat) / 2) t.opn.toNat t.loser).2 := by unfold LT.play; rw [if_neg (by simp [h1]), if_pos (by omega)]
        rw [e]
        exact (replayF_lt _ _ _ _ _ _ (by omega) h.fit.los).2 m
    rw [t.winF_out hw']
    have ps := t.play_src
    have po := t.play_order
    by_cases c : (at' t.src (W t.order t.src 1)).st = 2
    · have e1 : t.play.outF = ((0, Row.zero, 114), { t.play with opn := -1 }) := by unfold LT.outF; rw [if_pos (by rw [ps, a1]; exact c)]
      have e2 : winA t.order t.src = ((0, Row.zero, 114), t.src) := by unfold winA; rw [if_neg hw, if_pos c]
      rw [e1, e2]
      refine ⟨rfl, ps, po, ⟨fun m => by rw [ps]; exact hlos m, by rw [ps]; exact pw, by simp only [ps]; omega⟩, fun i hi => ?_, ?_⟩
      · simp only [ps] at hi ⊢; exact h.st i hi
      · right; left
        simp only [ps, po]
        exact ⟨a3, by simp, hf, a1, a2⟩
    · have e1 : t.play.outF = ((((t.play.win : Nat) : Int), (at' t.src t.play.win).row, (0 : Int)), { t.play with opn := t.play.win, src := t.play.src.set t.play.win Src.zero }) := by unfold LT.outF; rw [if_neg (by rw [ps, a1]; exact c), ps]
      have e2 : winA t.order t.src = ((((W t.order t.src 1 : Nat) : Int), (at' t.src (W t.order t.src 1)).row, (0 : Int)), t.src.set (W t.order t.src 1) Src.zero) := by unfold winA; rw [if_neg hw, if_neg c]
      rw [e1, e2]
      refine ⟨by rw [a1], by simp only [ps, a1], po, ⟨fun m => ?_, ?_, ?_⟩, fun i hi => ?_, ?_⟩
      · simp only [ps, List.length_set]; exact hlos m
      · simp only [ps, List.length_set]; exact pw
      · simp only [ps, List.length_set]; omega
      · simp only [ps, List.length_set] at hi ⊢
        rw [at'_set _ _ _ _ pw]
        split
        · exact .inl rfl
        · exact h.st i hi
      · right; right
        simp only [ps, po, List.length_set]
        refine ⟨a3, by simp, t.src, hf, rfl, ⟨a1, a2⟩, fun j hj => ?_⟩
        rw [at'_set _ _ _ _ pw, if_neg hj]

/-- The tree of losers at block g: its order and its sources. -/
def Tr (w : World) (g bs bl : Nat) (o : Int) (xs : List Src) : Prop := ∃ t : LT, IsLT w g bs bl t ∧ t.Inv ∧ t.order = o ∧ t.src = xs
theorem Tr.turn {S : Nat → Prop} {w w' : World} {g bs bl : Nat} {o : Int} {xs : List Src} (h : Tr w g bs bl o xs) (ht : Turn S w w') (h1 : ¬ S g) (h2 : ¬ S bs) (h3 : ¬ S bl) : Tr w' g bs bl o xs := by
  obtain ⟨t, a, b⟩ := h
  exact ⟨t, a.turn ht h1 h2 h3, b⟩
theorem Tr.below {w w' : World} {g bs bl : Nat} {o : Int} {xs : List Src} (h : Tr w g bs bl o xs) (hb : Below w.heap.size w w') : Tr w' g bs bl o xs := h.turn (Turn.of_below hb fun _ => False) id id id
theorem Tr.lt {w : World} {g bs bl : Nat} {o : Int} {xs : List Src} (h : Tr w g bs bl o xs) : g < w.heap.size ∧ bs < w.heap.size ∧ bl < w.heap.size := by
  obtain ⟨t, a, b⟩ := h
  exact ⟨a.main.lt, a.src.lt, a.los.lt⟩
theorem Tr.le {w : World} {g bs bl : Nat} {o : Int} {xs : List Src} (h : Tr w g bs bl o xs) : 1 ≤ xs.length ∧ xs.length ≤ 64 ∧ (o = 1 ∨ o = 2) := by
  obtain ⟨t, a, b, rfl, rfl⟩ := h
  exact ⟨a.pos, a.le, a.ord⟩
theorem Tr.st {w : World} {g bs bl : Nat} {o : Int} {xs : List Src} (h : Tr w g bs bl o xs) (i : Nat) (hi : i < xs.length) : (at' xs i).st = 0 ∨ Full (at' xs i) := by
  obtain ⟨t, a, b, rfl, rfl⟩ := h
  exact b.st i hi
/-- The tree's own blocks. -/
def Three (g bs bl : Nat) : Nat → Prop := fun b => b = bl ∨ b = g ∨ b = bs

theorem at'_replicate (k i : Nat) : at' (List.replicate k Src.zero) i = Src.zero := by
  unfold at'
  rw [List.getD_eq_getElem?_getD, List.getElem?_replicate]
  split <;> rfl
theorem LT.new_inv (o : Int) (k : Nat) (h1 : 1 ≤ k) : (LT.new o k).Inv := by
  refine ⟨⟨fun m => ?_, ?_, ?_⟩, fun i _ => .inl ?_, .inl ⟨rfl, rfl⟩⟩
  · simp only [LT.new, List.length_replicate]
    rw [List.getD_eq_getElem?_getD, List.getElem?_replicate]
    split <;> exact h1
  · simp only [LT.new, List.length_replicate]; exact h1
  · simp only [LT.new, List.length_replicate]; omega
  · simp only [LT.new]; rw [at'_replicate]; rfl
theorem tr_new (o : Int) (k : Nat) (w : World) (ho : o = 1 ∨ o = 2) (h1 : 1 ≤ k) (h2 : k ≤ 64) : Calls Try.prog 10 #[.int .i64 o, .int .i64 k] w fun e w' =>
    ∃ g bs bl, e = .returned (.tuple #[.pointer (some ⟨g, 0, none⟩), .int .i64 0]) ∧ Tr w' g bs bl o (List.replicate k Src.zero) ∧ Below w.heap.size w w' ∧ w.heap.size ≤ g ∧ w.heap.size ≤ bs ∧ w.heap.size ≤ bl := by
  refine (new_yes o k w ho h1 h2).mono ?_
  rintro e w' ⟨g, bs, bl, he, h, r⟩
  exact ⟨g, bs, bl, he, ⟨_, h, LT.new_inv o k h1, rfl, rfl⟩, r⟩
def waitA (xs : List Src) (i : Int) : Int := if i < 0 ∨ (xs.length : Int) ≤ i then 111 else if (at' xs i.toNat).st = 0 then 0 else 112
def feedA (xs : List Src) (i : Int) (r : Row) : Int := if waitA xs i ≠ 0 then waitA xs i else if r.ok then 0 else 90
/-- Feed: its answer and the sources behind it. -/
def feedS (xs : List Src) (i : Int) (r : Row) : List Src := if feedA xs i r = 0 then xs.set i.toNat ⟨1, r⟩ else xs
theorem tr_feed (g bs bl : Nat) (o : Int) (xs : List Src) (i : Int) (r : Row) (w : World) (h : Tr w g bs bl o xs) :
    Calls Try.prog 11 #[.pointer (some ⟨g, 0, none⟩), .int .i64 i, .agg #[.int .i64 r.kind, .int .i64 r.time, .int .i64 r.seq, .int .i64 r.index, .int .i64 r.frm, .int .i64 r.to, .string r.body]] w fun e w' =>
      e = .returned (.int .i64 (feedA xs i r)) ∧ Tr w' g bs bl o (feedS xs i r) ∧ Turn (Three g bs bl) w w' := by
  obtain ⟨t, a, b, rfl, rfl⟩ := h
  have ea : t.feedF i r = feedA t.src i r := rfl
  by_cases hf : feedA t.src i r = 0
  · refine (feed_yes g bs bl t i r w a (by rw [ea]; exact hf)).mono ?_
    rintro e w' ⟨rfl, h1, h2⟩
    have hw : t.waitF i = 0 := by
      unfold LT.feedF at ea
      rw [hf] at ea
      split at ea
      · exact ea
      · rename_i hx; simpa using hx
    obtain ⟨n, rfl, hn, hs⟩ := LT.waitF_zero hw
    rw [hf]
    refine ⟨rfl, ⟨_, h1, b.fed hn hs (.inl rfl), rfl, ?_⟩, h2.mono fun _ _ h => .inr (.inr h)⟩
    unfold feedS
    rw [if_pos hf]
    rfl
  · refine (feed_no g bs bl t i r w a (by rw [ea]; exact hf)).mono ?_
    rintro e w' ⟨rfl, h1⟩
    refine ⟨rfl, ⟨t, a.below h1, b, rfl, ?_⟩, Turn.of_below h1 _⟩
    unfold feedS
    rw [if_neg hf]
def finS (xs : List Src) (i : Int) : List Src := if waitA xs i = 0 then xs.set i.toNat Src.fin else xs
theorem tr_finish (g bs bl : Nat) (o : Int) (xs : List Src) (i : Int) (w : World) (h : Tr w g bs bl o xs) :
    Calls Try.prog 16 #[.pointer (some ⟨g, 0, none⟩), .int .i64 i] w fun e w' =>
      e = .returned (.int .i64 (waitA xs i)) ∧ Tr w' g bs bl o (finS xs i) ∧ Turn (Three g bs bl) w w' := by
  obtain ⟨t, a, b, rfl, rfl⟩ := h
  have ea : t.finF i = waitA t.src i := rfl
  by_cases hf : waitA t.src i = 0
  · refine (finish_yes g bs bl t i w a (by rw [ea]; exact hf)).mono ?_
    rintro e w' ⟨rfl, h1, h2⟩
    obtain ⟨n, rfl, hn, hs⟩ := LT.waitF_zero (t := t) hf
    rw [hf]
    refine ⟨rfl, ⟨_, h1, b.fed hn hs (.inr rfl), rfl, ?_⟩, h2.mono fun _ _ h => .inr (.inr h)⟩
    unfold finS
    rw [if_pos hf]
    rfl
  · refine (finish_no g bs bl t i w a (by rw [ea]; exact hf)).mono ?_
    rintro e w' ⟨rfl, rfl⟩
    refine ⟨rfl, ⟨t, a, b, rfl, ?_⟩, Turn.refl _ _⟩
    unfold finS
    rw [if_neg hf]
theorem tr_win (g bs bl : Nat) (o : Int) (xs : List Src) (w : World) (h : Tr w g bs bl o xs) :
    Calls Try.prog 12 #[.pointer (some ⟨g, 0, none⟩)] w fun e w' =>
      e = .returned (.tuple #[.int .i64 (winA o xs).1.1, .agg #[.int .i64 (winA o xs).1.2.1.kind, .int .i64 (winA o xs).1.2.1.time, .int .i64 (winA o xs).1.2.1.seq, .int .i64 (winA o xs).1.2.1.index, .int .i64 (winA o xs).1.2.1.frm, .int .i64 (winA o xs).1.2.1.to, .string (winA o xs).1.2.1.body], .int .i64 (winA o xs).1.2.2]) ∧
      Tr w' g bs bl o (winA o xs).2 ∧ Turn (Three g bs bl) w w' := by
  obtain ⟨t, a, b, rfl, rfl⟩ := h
  obtain ⟨c1, c2, c3, c4⟩ := b.wins a.ord a.pos a.len
  refine (win_any g bs bl t w a b.fit).mono ?_
  rintro e w' ⟨he, h1, h2⟩
  rw [c1] at he
  exact ⟨he, ⟨_, h1, c4, c3, c2⟩, h2⟩
theorem tr_waiting (g bs bl : Nat) (o : Int) (xs : List Src) (w : World) (h : Tr w g bs bl o xs) :
    Calls Try.prog 13 #[.pointer (some ⟨g, 0, none⟩)] w fun e w' => ∃ v, e = .returned v ∧ Own w' w.heap.size 3 1 natCell v (waitsTo xs xs.length) ∧ Below w.heap.size w w' := by
  obtain ⟨t, a, b, rfl, rfl⟩ := h
  exact waitingAll_any g bs bl t w a
end Go.Proofs.Ytgcfpepaapdjoaa
