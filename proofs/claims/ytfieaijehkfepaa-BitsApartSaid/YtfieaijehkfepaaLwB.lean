/-
  The law BitsApart, walked.
-/
import Derived.Test.YtfieaijehkfepaaLwA
namespace Go.Proofs.Ytfieaijehkfepaa
open Go.RowKit Go.Maps

theorem setF_comm {ws : List Nat} {a k v b l u : Nat} (h1 : a + k ≤ 64 * ws.length) (h2 : b + l ≤ 64 * ws.length) (hd : a + k ≤ b ∨ b + l ≤ a) : setF (setF ws a k v) b l u = setF (setF ws b l u) a k v := by
  refine words_ext (by simp only [setF_length]) (setF_bnd _ _ _ _) (setF_bnd _ _ _ _) fun i _ => ?_
  rw [bitAt_setF _ _ _ _ _ (by rw [setF_length]; exact h2), bitAt_setF _ _ _ _ _ h1, bitAt_setF _ _ _ _ _ (by rw [setF_length]; exact h1), bitAt_setF _ _ _ _ _ h2]
  by_cases g1 : a ≤ i ∧ i < a + k
  · rw [if_pos g1, if_pos g1, if_neg (by omega)]
  · rw [if_neg g1, if_neg g1]

theorem setF_twice {ws : List Nat} {a k v u : Nat} (h1 : a + k ≤ 64 * ws.length) : setF (setF ws a k v) a k u = setF ws a k u := by
  refine words_ext (by simp only [setF_length]) (setF_bnd _ _ _ _) (setF_bnd _ _ _ _) fun i _ => ?_
  rw [bitAt_setF _ _ _ _ _ (by rw [setF_length]; exact h1), bitAt_setF _ _ _ _ _ h1, bitAt_setF _ _ _ _ _ h1]
  by_cases g1 : a ≤ i ∧ i < a + k
  · rw [if_pos g1, if_pos g1]
  · rw [if_neg g1, if_neg g1, if_neg g1]

set_option maxRecDepth 100000 in
set_option maxHeartbeats 3200000 in
theorem BitsApart_walk (A : Option Addr) (n c : Nat) (zs : List Int) (z : List Int) (hl : z.length = 4) (_ : ∀ x ∈ z, (Lit.int .i64 x).wf = true) (u : List Int) (hl2 : u.length = 2) (hu : ∀ x ∈ u, (Lit.int .u64 x).wf = true) (W : World) (i : IsVals W A n (zs.map (.int .u64))) (hm : n ≤ maxLen) (hz : ∀ x ∈ zs, (Lit.int .u64 x).wf = true) (Q : Ending → World → Prop) (hQ : ∀ w', Below W.heap.size W w' → Q (.returned (.bool true)) w') :
    Calls Try.prog 9 #[.slice A n c, .agg (z.map (.int .i64)).toArray, .agg (u.map (.int .u64)).toArray] W Q := by
  obtain ⟨ws, hx, hb⟩ := words_of i hz
  obtain ⟨a0, k0, a1, k1, rfl⟩ : ∃ a k b l, z = [a, k, b, l] := by
    match z, hl with
    | [a, k, b, l], _ => exact ⟨a, k, b, l, rfl⟩
  obtain ⟨v0, v1, rfl⟩ : ∃ a b, u = [a, b] := by
    match u, hl2 with
    | [a, b], _ => exact ⟨a, b, rfl⟩
  obtain ⟨v0, rfl, hv0⟩ := nat_of_u64 (hu v0 (by simp))
  obtain ⟨v1, rfl, hv1⟩ := nat_of_u64 (hu v1 (by simp))
  show Calls Try.prog 9 #[.slice A n c, .agg #[.int .i64 a0, .int .i64 k0, .int .i64 a1, .int .i64 k1], .agg #[.int .u64 v0, .int .u64 v1]] W _
  have HQ := Lib.hid hQ
  have HX := Lib.hid hx
  have HB := Lib.hid hb
  have HL := Lib.hid hx.len
  have HV0 := Lib.hid hv0
  have HV1 := Lib.hid hv1
  clear hx hb hv0 hv1 hl hl2 hu i hz hQ
  unfold maxLen at hm
  have hW2 : Below W.heap.size W ((W.alloc (.cells #[.int .i64 a0, .int .i64 k0, .int .i64 a1, .int .i64 k1] 39)).alloc (.cells #[.int .u64 v0, .int .u64 v1] 42)) := ((Below.refl _ W).alloc (Nat.le_refl _) _).alloc (by simp) _
  have HW2 := Lib.hid hW2
  clear hW2
  by_cases h20 : n ≤ 20
  · have hcell : ∀ w', Below (W.heap.size + 2) ((W.alloc (.cells #[.int .i64 a0, .int .i64 k0, .int .i64 a1, .int .i64 k1] 39)).alloc (.cells #[.int .u64 v0, .int .u64 v1] 42)) w' →
        (w'.cell? ⟨W.heap.size, 0, none⟩ = some (.int .i64 a0) ∧ w'.cell? ⟨W.heap.size, 1, none⟩ = some (.int .i64 k0) ∧ w'.cell? ⟨W.heap.size, 2, none⟩ = some (.int .i64 a1) ∧ w'.cell? ⟨W.heap.size, 3, none⟩ = some (.int .i64 k1)) ∧
        (w'.cell? ⟨W.heap.size + 1, 0, none⟩ = some (.int .u64 v0) ∧ w'.cell? ⟨W.heap.size + 1, 1, none⟩ = some (.int .u64 v1)) ∧ Below W.heap.size W w' := by
      intro w' hb
      refine ⟨⟨?_, ?_, ?_, ?_⟩, ⟨?_, ?_⟩, HW2.out.trans (hb.mono (by omega))⟩
      · exact (hb.cell (p := ⟨W.heap.size, 0, none⟩) (by simp)).trans (by simp)
      · exact (hb.cell (p := ⟨W.heap.size, 1, none⟩) (by simp)).trans (by simp)
      · exact (hb.cell (p := ⟨W.heap.size, 2, none⟩) (by simp)).trans (by simp)
      · exact (hb.cell (p := ⟨W.heap.size, 3, none⟩) (by simp)).trans (by simp)
      · exact (hb.cell (p := ⟨W.heap.size + 1, 0, none⟩) (by simp)).trans (by simp)
      · exact (hb.cell (p := ⟨W.heap.size + 1, 1, none⟩) (by simp)).trans (by simp)
    have HC := Lib.hid hcell
    clear hcell
    cases t0 : thB n a0 k0 with
    | false =>
      have HS0 := Lib.hid (fun w' => set_no (w := w') (A := A) (c := c) (v := v0) (by omega) t0)
      have HS1 := Lib.hid (fun w' (hb : Below W.heap.size W w') => set_any (w := w') (a := a1) (k := k1) (c := c) (HX.out.below hb) HB.out HV1.out (by omega))
      generalize (setO ws a1 k1 v1).isSome = S at *
      generalize (setO ws a1 k1 v1).getD [] = R at *
      clear t0
      go_enter Try.func9, Try.ntmps9
      go_wp2_with fail
      refine HS0.out _ _ ?_
      go_wp2_with fail
      refine HS1.out _ HW2.out _ fun w2 A2 l2 c2 h2 hl2 hb2 => ?_
      have H2 := Lib.hid (HW2.out.trans (hb2.mono HW2.out.size))
      clear h2 hb2
      go_wp2_with fail
      refine live_any _ fun w' hb' => ?_
      have HB' := Lib.hid (H2.out.trans (hb'.mono H2.out.size))
      clear hb'
      go_wp2_with fail
      exact HQ.out _ HB'.out
    | true =>
      obtain ⟨a0, k0, rfl, rfl, hk0, ha0⟩ := thB_nat t0
      clear t0
      have HS0 := Lib.hid (fun w' (hb : Below W.heap.size W w') => set_yes (w := w') (c := c) (HX.out.below hb) HB.out HV0.out (by omega) hk0 ha0)
      cases t1 : thB n a1 k1 with
      | false =>
        have HS1 := Lib.hid (fun w' => set_no (w := w') (A := A) (c := c) (v := v1) (by omega) t1)
        clear t1
        go_enter Try.func9, Try.ntmps9
        go_wp2_with fail
        refine HS0.out _ HW2.out _ fun w1 A1 c1 h1 hb1 => ?_
        obtain ⟨⟨f0, f1, f2, f3⟩, ⟨g0, g1⟩, hbw⟩ := HC.out w1 (hb1.mono (by simp))
        have H1 := Lib.hid hbw
        clear h1 hb1 hbw
        go_wp2_with fail
        refine HS1.out _ _ ?_
        go_wp2_with fail
        refine live_any _ fun w' hb' => ?_
        have HB' := Lib.hid (H1.out.trans (hb'.mono H1.out.size))
        clear hb'
        go_wp2_with fail
        exact HQ.out _ HB'.out
      | true =>
        obtain ⟨a1, k1, rfl, rfl, hk1, ha1⟩ := thB_nat t1
        clear t1
        have HS1 := Lib.hid (fun w' (hb : Below W.heap.size W w') => set_yes (w := w') (c := c) (HX.out.below hb) HB.out HV1.out (by omega) hk1 ha1)
        have HF1 := Lib.hid (fun w' (hb : Below W.heap.size W w') => set_yes (w := w') (c := c) (HX.out.below hb) HB.out HV1.out (by omega) hk0 ha0)
        have HT := Lib.hid (setF_twice (ws := ws) (v := v0) (u := v1) (by rw [HL.out]; exact ha0))
        have HCM := Lib.hid (fun hd => setF_comm (ws := ws) (v := v0) (u := v1) (by rw [HL.out]; exact ha0) (by rw [HL.out]; exact ha1) hd)
        have hcase : ((a0 + k0 ≤ a1) ∨ (¬ a0 + k0 ≤ a1 ∧ a1 + k1 ≤ a0)) ∨ (¬ a0 + k0 ≤ a1 ∧ ¬ a1 + k1 ≤ a0) := by omega
        rcases hcase with (hd | ⟨hd, hd2⟩) | ⟨hd, hd2⟩
        all_goals
          go_enter Try.func9, Try.ntmps9
          go_wp2_with fail
          refine HS0.out _ HW2.out _ fun w1 A1 c1 h1 hb1 => ?_
          have hb1' := hb1.mono (show W.heap.size + 2 ≤ _ by simp)
          obtain ⟨⟨f0, f1, f2, f3⟩, ⟨g0, g1⟩, hbw⟩ := HC.out w1 hb1'
          have hs1 := hb1'.size
          have H1 := Lib.hid (And.intro hbw (And.intro hb1' h1))
          clear h1 hb1 hbw hb1'
          go_wp2_with fail
          refine HS1.out _ H1.out.1 _ fun w2 A2 c2 h2 hb2 => ?_
          have hb2' := H1.out.2.1.trans (hb2.mono (show W.heap.size + 2 ≤ _ by simp at hs1; omega))
          have H2 := Lib.hid (And.intro (HC.out w2 hb2') (And.intro hb2' (And.intro h2 (H1.out.2.2.below hb2))))
          have hs2 := hb2'.size
          clear f0 f1 f2 f3 g0 g1 h2 hb2 hb2'
          obtain ⟨⟨f0, f1, f2, f3⟩, ⟨g0, g1⟩, _⟩ := H2.out.1
          go_wp2_with fail
          refine set_yes H2.out.2.2.2 (setF_bnd _ _ _ _) HV1.out (by omega) hk1 ha1 _ fun w3 A3 c3 h3 hb3 => ?_
          have hb3' := H2.out.2.1.trans (hb3.mono (show W.heap.size + 2 ≤ _ by simp at hs2; omega))
          have H3 := Lib.hid (And.intro (HC.out w3 hb3') (And.intro hb3' (And.intro h3 (And.intro (H2.out.2.2.1.below hb3) (H2.out.2.2.2.below hb3)))))
          have hs3 := hb3'.size
          clear f0 f1 f2 f3 g0 g1 h3 hb3 hb3'
          obtain ⟨⟨f0, f1, f2, f3⟩, ⟨g0, g1⟩, _⟩ := H3.out.1
          go_wp2_with fail
          refine set_yes H3.out.2.2.2.1 (setF_bnd _ _ _ _) HV0.out (by omega) hk0 ha0 _ fun w4 A4 c4 h4 hb4 => ?_
          have hb4' := H3.out.2.1.trans (hb4.mono (show W.heap.size + 2 ≤ _ by simp at hs3; omega))
          have H4 := Lib.hid (And.intro (HC.out w4 hb4') (And.intro hb4' (And.intro h4 (And.intro (H3.out.2.2.1.below hb4) (H3.out.2.2.2.2.below hb4)))))
          have hs4 := hb4'.size
          clear f0 f1 f2 f3 g0 g1 h4 hb4 hb4'
          obtain ⟨⟨f0, f1, f2, f3⟩, ⟨g0, g1⟩, _⟩ := H4.out.1
          go_wp2_with fail
          refine set_yes H4.out.2.2.2.2 (setF_bnd _ _ _ _) HV1.out (by omega) hk0 ha0 _ fun w5 A5 c5 h5 hb5 => ?_
          have hb5' := H4.out.2.1.trans (hb5.mono (show W.heap.size + 2 ≤ _ by simp at hs4; omega))
          have H5 := Lib.hid (And.intro (HC.out w5 hb5') (And.intro hb5' (And.intro h5 (And.intro (H4.out.2.2.2.1.below hb5) (H4.out.2.2.1.below hb5)))))
          have hs5 := hb5'.size
          clear f0 f1 f2 f3 g0 g1 h5 hb5 hb5'
          obtain ⟨⟨f0, f1, f2, f3⟩, ⟨g0, g1⟩, _⟩ := H5.out.1
          go_wp2_with fail
          refine HF1.out _ H5.out.1.2.2 _ fun w6 A6 c6 h6 hb6 => ?_
          have hb6' := H5.out.2.1.trans (hb6.mono (show W.heap.size + 2 ≤ _ by simp at hs5; omega))
          have H6 := Lib.hid (And.intro (HC.out w6 hb6') (And.intro h6 (And.intro (H5.out.2.2.1.below hb6) (And.intro (H5.out.2.2.2.1.below hb6) (H5.out.2.2.2.2.below hb6)))))
          clear f0 f1 f2 f3 g0 g1 h6 hb6 hb6'
          obtain ⟨⟨f0, f1, f2, f3⟩, ⟨g0, g1⟩, _⟩ := H6.out.1
          go_wp2_with fail
        · refine same_any H6.out.2.2.2.1 H6.out.2.2.2.2 (by omega) (by omega) _ fun q => ?_
          rw [HCM.out (.inl hd)]
          simp only [decide_true]
          go_wp2_with fail
          refine same_any (H6.out.2.2.1.drewN q) (H6.out.2.1.drewN q) (by omega) (by omega) _ fun q2 => ?_
          rw [HT.out]
          simp only [decide_true]
          go_wp2_with fail
          refine live_any _ fun w' hb' => ?_
          have HB' := Lib.hid (H6.out.1.2.2.trans ((below_of_drewN hb').mono H6.out.1.2.2.size))
          clear hb'
          go_wp2_with fail
          exact HQ.out _ HB'.out
        · refine same_any H6.out.2.2.2.1 H6.out.2.2.2.2 (by omega) (by omega) _ fun q => ?_
          rw [HCM.out (.inr hd2)]
          simp only [decide_true]
          go_wp2_with fail
          refine same_any (H6.out.2.2.1.drewN q) (H6.out.2.1.drewN q) (by omega) (by omega) _ fun q2 => ?_
          rw [HT.out]
          simp only [decide_true]
          go_wp2_with fail
          refine live_any _ fun w' hb' => ?_
          have HB' := Lib.hid (H6.out.1.2.2.trans ((below_of_drewN hb').mono H6.out.1.2.2.size))
          clear hb'
          go_wp2_with fail
          exact HQ.out _ HB'.out
        · refine same_any H6.out.2.2.1 H6.out.2.1 (by omega) (by omega) _ fun q2 => ?_
          rw [HT.out]
          simp only [decide_true]
          go_wp2_with fail
          refine live_any _ fun w' hb' => ?_
          have HB' := Lib.hid (H6.out.1.2.2.trans ((below_of_drewN hb').mono H6.out.1.2.2.size))
          clear hb'
          go_wp2_with fail
          exact HQ.out _ HB'.out
  · go_enter Try.func9, Try.ntmps9
    go_wp2_with fail
    refine live_any _ fun w' hb' => ?_
    have HB' := Lib.hid (HW2.out.trans (hb'.mono HW2.out.size))
    clear hb'
    go_wp2_with fail
    exact HQ.out _ HB'.out
end Go.Proofs.Ytfieaijehkfepaa
