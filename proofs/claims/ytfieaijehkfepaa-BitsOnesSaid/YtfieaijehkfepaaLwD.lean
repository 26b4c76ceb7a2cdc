/-
  The law BitsOnes, walked.
-/
import Derived.Test.YtfieaijehkfepaaLwA
namespace Go.Proofs.Ytfieaijehkfepaa
open Go.RowKit Go.Maps

theorem cntTo_skip {f : Nat → Bool} {a : Nat} : ∀ {m}, (∀ q, a ≤ q → q < a + m → f q = false) → cntTo f (a + m) = cntTo f a
  | 0, _ => rfl
  | m + 1, h => by
    rw [← Nat.add_assoc, cntTo, cntTo_skip fun q h1 h2 => h q h1 (by omega), h (a + m) (by omega) (by omega)]
    rfl

theorem cnt_next {ws : List Nat} {a p : Nat} (h : nextB ws a = some p) : cntTo (bitAt ws) (p + 1) = cntTo (bitAt ws) a + 1 := by
  obtain ⟨h1, _, h3, h4⟩ := nextB_some.1 h
  rw [cntTo, h3, if_pos rfl]
  have := cntTo_skip (f := bitAt ws) (a := a) (m := p - a) fun q g1 g2 => h4 q g1 (by omega)
  rw [show a + (p - a) = p by omega] at this
  rw [this]

theorem cnt_none {ws : List Nat} {a : Nat} (h : nextB ws a = none) (ha : a ≤ 64 * ws.length) : cntB ws = cntTo (bitAt ws) a := by
  have := cntTo_skip (f := bitAt ws) (a := a) (m := 64 * ws.length - a) fun q g1 g2 => nextB_none.1 h q g1 (by omega)
  rw [show a + (64 * ws.length - a) = 64 * ws.length by omega] at this
  exact this

theorem getF_one (ws : List Nat) (a : Nat) : getF ws a 1 = if bitAt ws a then 1 else 0 := by
  rw [getF_cons]
  simp [getF, ofB]

theorem cntTo_mend {f g : Nat → Bool} {i n : Nat} (hi : i < n) (hg : ∀ j, j < n → g j = if j = i then true else f j) : cntTo g n + (if f i then 1 else 0) = cntTo f n + 1 := by
  have e : n = i + 1 + (n - (i + 1)) := by omega
  have h1 : cntTo g (i + 1) = cntTo f i + 1 := by
    rw [cntTo, hg i hi, if_pos rfl, if_pos rfl, cntTo_congr (f := g) (g := f) (n := i) fun j hj => by rw [hg j (by omega), if_neg (by omega)]]
  have h2 : cntTo f (i + 1) = cntTo f i + if f i then 1 else 0 := rfl
  have h3 : cntTo (fun j => g (i + 1 + j)) (n - (i + 1)) = cntTo (fun j => f (i + 1 + j)) (n - (i + 1)) := cntTo_congr fun j hj => by rw [hg _ (by omega), if_neg (by omega)]
  have h4 : cntTo g n = cntTo g (i + 1) + cntTo (fun j => g (i + 1 + j)) (n - (i + 1)) := by
    rw [← cntTo_add, ← e]
  have h5 : cntTo f n = cntTo f (i + 1) + cntTo (fun j => f (i + 1 + j)) (n - (i + 1)) := by
    rw [← cntTo_add, ← e]
  rw [h4, h5, h1, h2, h3]
  omega

theorem cnt_set {ws : List Nat} {i : Nat} (hi : i + 1 ≤ 64 * ws.length) : cntB (setF ws i 1 1) + getF ws i 1 = cntB ws + 1 := by
  rw [getF_one]
  unfold cntB
  rw [setF_length]
  refine cntTo_mend (by omega) fun j hj => ?_
  rw [bitAt_setF _ _ _ _ _ hi]
  by_cases h : j = i
  · subst h
    rw [if_pos (by omega), if_pos rfl, Nat.sub_self]
    rfl
  · rw [if_neg (by omega), if_neg h]

set_option maxRecDepth 100000 in
set_option maxHeartbeats 3200000 in
theorem BitsOnes_walk (A : Option Addr) (n c : Nat) (zs : List Int) (x : Int) (_ : (Lit.int .i64 x).wf = true) (W : World) (i : IsVals W A n (zs.map (.int .u64))) (hm : n ≤ maxLen) (hz : ∀ x ∈ zs, (Lit.int .u64 x).wf = true) (Q : Ending → World → Prop) (hQ : ∀ w', Below W.heap.size W w' → Q (.returned (.bool true)) w') :
    Calls Try.prog 8 #[.slice A n c, .int .i64 x] W Q := by
  obtain ⟨ws, hx, hb⟩ := words_of i hz
  have HQ := Lib.hid hQ
  have HX := Lib.hid hx
  have HB := Lib.hid hb
  have HL := Lib.hid hx.len
  clear hx hb i hz hQ
  unfold maxLen at hm
  by_cases h20 : n ≤ 20
  · have HN := Lib.hid (fun f a h1 h2 => next_any (w := W) (c := c) HX.out HB.out (by omega) f a h1 h2)
    have HC := Lib.hid (count_any (w := W) (c := c) HX.out HB.out (by omega))
    have hcle := cntB_le ws
    rw [HL.out] at hcle
    have h0 := Lib.hid (HN.out 0 0 rfl (by decide))
    go_enter Try.func8, Try.ntmps8
    go_wp2_with fail
    refine h0.out _ ?_
    have hnv : ∀ o, nv o = .tuple #[.int .i64 ((o.getD 0 : Nat) : Int), .bool o.isSome] := fun o => by cases o <;> rfl
    have HNV := Lib.hid hnv
    clear hnv
    rw [HNV.out]
    generalize ho : nextB ws 0 = o
    have HO := Lib.hid ho
    clear ho
    go_wp2_with fail
    go_loopg [5, 6, 7, 8] (64 * n + 1) (fun g s l k is wr => ∃ (a : Nat) (o : Option Nat), a ≤ 64 * n ∧ g = 64 * n + 1 - a ∧ s = .int .i64 (cntTo (bitAt ws) a : Nat) ∧ l = .int .i64 ((a : Int) - 1) ∧ k = .int .i64 ((o.getD 0 : Nat) : Int) ∧ is = .bool o.isSome ∧ wr = W ∧ Hid (nextB ws a = o))
    case atStart => exact ⟨0, o, Nat.zero_le _, rfl, rfl, rfl, rfl, rfl, rfl, HO⟩
    case round =>
      clear HO h0
      obtain ⟨a, o, ha, hg, rfl, rfl, rfl, rfl, rfl, HO⟩ := hrel
      have HG := Lib.hid hg
      clear hg
      cases o with
      | none =>
        have hcn := cnt_none HO.out (by rw [HL.out]; exact ha)
        rw [← hcn]
        have hc2 := HC
        have hg3 : (∃ y b : Nat, x = (y : Int) ∧ b ≤ 1 ∧ Hid (thB n x 1 = true) ∧ getO ws x 1 = some b ∧ setO ws x 1 1 = some (setF ws y 1 1) ∧ Hid (y + 1 ≤ 64 * n) ∧ cntB (setF ws y 1 1) + b = cntB ws + 1) ∨ (getO ws x 1 = none ∧ setO ws x 1 1 = none) := by
          unfold getO setO
          rw [HL.out]
          cases t : thB n x 1 with
          | false => exact .inr ⟨if_neg (by decide), if_neg (by decide)⟩
          | true =>
            obtain ⟨y, k', rfl, e, h1, h2⟩ := thB_nat t
            obtain rfl : k' = 1 := by omega
            exact .inl ⟨y, getF ws y 1, rfl, by rw [getF_one]; split <;> omega, Lib.hid rfl, if_pos rfl, if_pos rfl, Lib.hid h2, cnt_set (by rw [HL.out]; exact h2)⟩
        have HGT := Lib.hid (get_any (w := wr) (a := x) (k := 1) (c := c) HX.out HB.out (by omega))
        have HST := Lib.hid (set_any (w := wr) (a := x) (k := 1) (v := 1) (c := c) HX.out HB.out (by decide) (by omega))
        clear hcn
        rcases hg3 with ⟨y, b, rfl, hb1, _, e1, e2, _, e3⟩ | ⟨e1, e2⟩
        · rw [e1] at HGT
          rw [e2] at HST
          have HB2 := Lib.hid (setF_bnd ws y 1 1)
          have hcle2 := cntB_le (setF ws y 1 1)
          rw [setF_length, HL.out] at hcle2
          have HC3 := Lib.hid (fun w' A' c' h => count_any (w := w') (A := A') (n := n) (c := c') (ws := setF ws y 1 1) h HB2.out (by omega))
          have HL2 : Hid ((setF ws y 1 1).length = n) := Lib.hid (by rw [setF_length]; exact HL.out)
          clear e1 e2
          generalize cntB (setF ws y 1 1) = N2 at *
          generalize setF ws y 1 1 = ws2 at *
          generalize cntB ws = N at *
          have e4 : ((N2 : Int) == (N : Int) + 1 - (b : Int)) = true := by rw [beq_iff_eq]; omega
          clear e3
          go_wp2_with fail
          refine HC.out _ ?_
          go_wp2_with fail
          refine HGT.out _ ?_
          unfold gv
          go_wp2_with fail
          refine HST.out _ fun w1 A1 l1 c1 h1 hl1 hb1 => ?_
          obtain rfl : n = l1 := by rw [← HL2.out]; exact IsWords.len (ws := ws2) h1
          have H1 := Lib.hid (And.intro (show IsWords w1 A1 n ws2 from h1) hb1)
          clear h1 hb1
          go_wp2_with fail
          refine HC3.out _ _ _ H1.out.1 _ ?_
          go_wp2_with fail
          refine live_any _ fun w' hb' => ?_
          have HB' := Lib.hid (H1.out.2.trans (hb'.mono H1.out.2.size))
          clear hb'
          go_wp2_with fail
          exact HQ.out _ HB'.out
        · rw [e1] at HGT
          rw [e2] at HST
          clear e1 e2
          generalize cntB ws = N at *
          go_wp2_with fail
          refine HC.out _ ?_
          go_wp2_with fail
          refine HGT.out _ ?_
          unfold gv
          go_wp2_with fail
          refine HST.out _ fun w1 A1 l1 c1 h1 hl1 hb1 => ?_
          have H1 := Lib.hid hb1
          clear h1 hb1
          go_wp2_with fail
          refine live_any _ fun w' hb' => ?_
          have HB' := Lib.hid (H1.out.trans (hb'.mono H1.out.size))
          clear hb'
          go_wp2_with fail
          exact HQ.out _ HB'.out
      | some p =>
        obtain ⟨hap, hpl, hbit, _⟩ := nextB_some.1 HO.out
        rw [HL.out] at hpl
        have HCN := Lib.hid (cnt_next HO.out)
        have hca := cntTo_le (bitAt ws) a
        have hget : getO ws (p : Int) 1 = some 1 := by
          unfold getO
          rw [HL.out, if_pos (by simp only [thB, decide_eq_true_iff]; omega)]
          have := getF_one ws p
          rw [hbit, if_pos rfl] at this
          exact congrArg some this
        have HGT := Lib.hid (get_any (w := wr) (a := (p : Int)) (k := 1) (c := c) HX.out HB.out (by omega))
        rw [hget] at HGT
        have HN2 := Lib.hid (HN.out ((p : Int) + 1) (p + 1) (by omega) (by omega))
        rw [HNV.out] at HN2
        generalize ho : nextB ws (p + 1) = o' at *
        have HO2 := Lib.hid ho
        clear hget hbit ho
        generalize cntTo (bitAt ws) a = N at *
        go_wp2_with fail
        refine HGT.out _ ?_
        unfold gv
        go_wp2_with fail
        refine HN2.out _ ?_
        go_wp2_with fail
        go_roundg (64 * n + 1 - (p + 1))
        case measure => have := HG.out; omega
        case rel => exact ⟨p + 1, o', by omega, rfl, by rw [HCN.out]; go_num, by go_num, rfl, rfl, rfl, HO2⟩
  · go_enter Try.func8, Try.ntmps8
    go_wp2_with fail
    refine live_any _ fun w' hb' => ?_
    have HB' := Lib.hid hb'
    clear hb'
    go_wp2_with fail
    exact HQ.out _ HB'.out
end Go.Proofs.Ytfieaijehkfepaa
