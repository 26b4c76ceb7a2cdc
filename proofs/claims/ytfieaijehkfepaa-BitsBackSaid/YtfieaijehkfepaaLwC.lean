/-
  The law BitsBack, walked.
-/
import Derived.Test.YtfieaijehkfepaaLwA
namespace Go.Proofs.Ytfieaijehkfepaa
open Go.RowKit Go.Maps

theorem getF_setF {ws : List Nat} {a k v : Nat} (h1 : a + k ≤ 64 * ws.length) : getF (setF ws a k v) a k = v &&& (2 ^ k - 1) := by
  refine Nat.eq_of_testBit_eq fun j => ?_
  rw [testBit_getF, bitAt_setF _ _ _ _ _ h1, testBit_and_mask]
  by_cases hj : j < k
  · rw [if_pos (by omega), Nat.add_sub_cancel_left]
    simp [hj]
  · simp [hj]

theorem getF_apart {ws : List Nat} {a k v b l : Nat} (h1 : a + k ≤ 64 * ws.length) (hd : a + k ≤ b ∨ b + l ≤ a) : getF (setF ws a k v) b l = getF ws b l := by
  refine ofB_congr fun j hj => ?_
  rw [bitAt_setF _ _ _ _ _ h1, if_neg (by omega)]

set_option maxRecDepth 100000 in
set_option maxHeartbeats 3200000 in
theorem BitsBack_walk (A : Option Addr) (n c : Nat) (zs : List Int) (z : List Int) (hl : z.length = 4) (_ : ∀ x ∈ z, (Lit.int .i64 x).wf = true) (v : Int) (hv : (Lit.int .u64 v).wf = true) (W : World) (i : IsVals W A n (zs.map (.int .u64))) (hm : n ≤ maxLen) (hz : ∀ x ∈ zs, (Lit.int .u64 x).wf = true) (Q : Ending → World → Prop) (hQ : ∀ w', Below W.heap.size W w' → Q (.returned (.bool true)) w') :
    Calls Try.prog 6 #[.slice A n c, .agg (z.map (.int .i64)).toArray, .int .u64 v] W Q := by
  obtain ⟨ws, hx, hb⟩ := words_of i hz
  obtain ⟨v, rfl, hv64⟩ := nat_of_u64 hv
  obtain ⟨a0, k0, a1, k1, rfl⟩ : ∃ a k b l, z = [a, k, b, l] := by
    match z, hl with
    | [a, k, b, l], _ => exact ⟨a, k, b, l, rfl⟩
  show Calls Try.prog 6 #[.slice A n c, .agg #[.int .i64 a0, .int .i64 k0, .int .i64 a1, .int .i64 k1], .int .u64 v] W _
  have HQ := Lib.hid hQ
  have HX := Lib.hid hx
  have HB := Lib.hid hb
  have HL := Lib.hid hx.len
  have HV := Lib.hid hv64
  clear hx hb hv64 hl hv i hz hQ
  unfold maxLen at hm
  have HW2 : Hid (Below W.heap.size W (W.alloc (.cells #[.int .i64 a0, .int .i64 k0, .int .i64 a1, .int .i64 k1] 39))) := Lib.hid ((Below.refl _ W).alloc (Nat.le_refl _) _)
  by_cases h20 : n ≤ 20
  · cases t0 : thB n a0 k0 with
    | false =>
      have HS0 := Lib.hid (fun w' => set_no (w := w') (A := A) (c := c) (v := v) (by omega) t0)
      have HG0 := Lib.hid (fun w' => get_no (w := w') (A := A) (c := c) (by omega) t0)
      clear t0
      go_enter Try.func6, Try.ntmps6
      go_wp2_with fail
      refine HS0.out _ _ ?_
      go_wp2_with fail
      refine HG0.out _ _ ?_
      go_wp2_with fail
      refine live_any _ fun w' hb' => ?_
      have HB' := Lib.hid (HW2.out.trans (hb'.mono HW2.out.size))
      clear hb'
      go_wp2_with fail
      exact HQ.out _ HB'.out
    | true =>
      obtain ⟨a0, k0, rfl, rfl, hk0, ha0⟩ := thB_nat t0
      clear t0
      have HS0 := Lib.hid (fun w' (hb : Below W.heap.size W w') => set_yes (w := w') (c := c) (HX.out.below hb) HB.out HV.out (by omega) hk0 ha0)
      have HGW := Lib.hid (fun w' (hb : Below W.heap.size W w') => get_any (w := w') (a := a1) (k := k1) (c := c) (HX.out.below hb) HB.out (by omega))
      have HGX := Lib.hid (fun w' A' c' (h : IsWords w' A' n (setF ws a0 k0 v)) => get_any (a := a1) (k := k1) (c := c') h (setF_bnd _ _ _ _) (by omega))
      have HGF := Lib.hid (getF_setF (ws := ws) (a := a0) (k := k0) (v := v) (by rw [HL.out]; exact ha0))
      have hG : (∃ g1 g2 : Nat, getO ws a1 k1 = some g1 ∧ getO (setF ws a0 k0 v) a1 k1 = some g2 ∧ ∃ b l : Nat, a1 = (b : Int) ∧ k1 = (l : Int) ∧ l ≤ 64 ∧ b + l ≤ 64 * n ∧ Hid (a0 + k0 ≤ b ∨ b + l ≤ a0 → g1 = g2)) ∨ (getO ws a1 k1 = none ∧ getO (setF ws a0 k0 v) a1 k1 = none) := by
        unfold getO
        rw [setF_length]
        cases t1 : thB ws.length a1 k1 with
        | false => exact .inr ⟨if_neg (by decide), if_neg (by decide)⟩
        | true =>
          rw [HL.out] at t1
          obtain ⟨b, l, rfl, rfl, h1, h2⟩ := thB_nat t1
          exact .inl ⟨_, _, if_pos rfl, if_pos rfl, b, l, rfl, rfl, h1, h2, Lib.hid fun h => (getF_apart (by rw [HL.out]; exact ha0) h).symm⟩
      have hcell : ∀ w', Below (W.heap.size + 1) (W.alloc (.cells #[.int .i64 a0, .int .i64 k0, .int .i64 a1, .int .i64 k1] 39)) w' →
          w'.cell? ⟨W.heap.size, 0, none⟩ = some (.int .i64 a0) ∧ w'.cell? ⟨W.heap.size, 1, none⟩ = some (.int .i64 k0) ∧ w'.cell? ⟨W.heap.size, 2, none⟩ = some (.int .i64 a1) ∧ w'.cell? ⟨W.heap.size, 3, none⟩ = some (.int .i64 k1) := by
        intro w' hb
        refine ⟨?_, ?_, ?_, ?_⟩
        · exact (hb.cell (p := ⟨W.heap.size, 0, none⟩) (by simp)).trans (by simp)
        · exact (hb.cell (p := ⟨W.heap.size, 1, none⟩) (by simp)).trans (by simp)
        · exact (hb.cell (p := ⟨W.heap.size, 2, none⟩) (by simp)).trans (by simp)
        · exact (hb.cell (p := ⟨W.heap.size, 3, none⟩) (by simp)).trans (by simp)
      have HC := Lib.hid hcell
      clear hcell
      have hml := msk_lt hk0
      have ha := and64 HV.out hml
      have hM : k0 < 64 → IntKind.u64.wrap (2 ^ k0) = ((2 ^ k0 : Nat) : Int) ∧ IntKind.u64.wrap (((2 ^ k0 : Nat) : Int) - 1) = ((2 ^ k0 - 1 : Nat) : Int) := by
        intro h
        have h1 : 2 ^ k0 < 2 ^ 64 := Nat.pow_lt_pow_right (by omega) h
        have h2 : 0 < 2 ^ k0 := Nat.two_pow_pos k0
        refine ⟨?_, ?_⟩
        · rw [IntKind.wrap_u64, show ((2 : Int) ^ k0) = ((2 ^ k0 : Nat) : Int) by simp]; omega
        · rw [IntKind.wrap_u64]; omega
      have hv1 : 64 ≤ k0 → v &&& (2 ^ k0 - 1) = v := by
        intro h
        obtain rfl : k0 = 64 := by omega
        refine Nat.eq_of_testBit_eq fun j => ?_
        rw [testBit_and_mask]
        by_cases hj : j < 64
        · simp [hj]
        · rw [tb_out HV.out (by omega)]; rfl
      generalize getO ws a1 k1 = G1 at *
      generalize getO (setF ws a0 k0 v) a1 k1 = G2 at *
      have HM := Lib.hid hM
      have HV1 := Lib.hid hv1
      generalize v &&& (2 ^ k0 - 1) = x at *
      generalize 2 ^ k0 - 1 = m at *
      generalize 2 ^ k0 = p2 at *
      clear hM hv1 hml
      have hk : (k0 < 64 ∧ IntKind.u64.wrap (2 ^ k0) = (p2 : Int) ∧ IntKind.u64.wrap ((p2 : Int) - 1) = (m : Int)) ∨ (64 ≤ k0 ∧ x = v) := by
        rcases Nat.lt_or_ge k0 64 with h | h
        · exact .inl ⟨h, HM.out h⟩
        · exact .inr ⟨h, HV1.out h⟩
      clear HM HV1
      have HGF2 := Lib.hid (fun w' A' c' (h : IsWords w' A' n (setF ws a0 k0 v)) => get_yes (a := a0) (k := k0) (c := c') h (setF_bnd _ _ _ _) (by omega) hk0 ha0)
      rw [HGF.out] at HGF2
      have hG' : (∃ g1 g2 : Nat, G1 = some g1 ∧ G2 = some g2 ∧ ∃ b l : Nat, a1 = (b : Int) ∧ k1 = (l : Int) ∧ l ≤ 64 ∧ b + l ≤ 64 * n ∧ ((a0 + k0 ≤ b ∧ g1 = g2) ∨ (¬ a0 + k0 ≤ b ∧ b + l ≤ a0 ∧ g1 = g2) ∨ (¬ a0 + k0 ≤ b ∧ ¬ b + l ≤ a0))) ∨ (G1 = none ∧ G2 = none) := by
        rcases hG with ⟨g1, g2, e1, e2, b, l, e3, e4, h1, h2, HE⟩ | h
        · refine .inl ⟨g1, g2, e1, e2, b, l, e3, e4, h1, h2, ?_⟩
          by_cases q1 : a0 + k0 ≤ b
          · exact .inl ⟨q1, HE.out (.inl q1)⟩
          · by_cases q2 : b + l ≤ a0
            · exact .inr (.inl ⟨q1, q2, HE.out (.inr q2)⟩)
            · exact .inr (.inr ⟨q1, q2⟩)
        · exact .inr h
      clear hG
      rcases hk with ⟨hk, e1, e2⟩ | ⟨hk, rfl⟩
      all_goals
        rcases hG' with ⟨g1, g2, rfl, rfl, b, l, rfl, rfl, h1, h2, ⟨q1, rfl⟩ | ⟨q1, q2, rfl⟩ | ⟨q1, q2⟩⟩ | ⟨rfl, rfl⟩
        all_goals
          go_enter Try.func6, Try.ntmps6
          go_wp2_with fail
          refine HS0.out _ HW2.out _ fun w1 A1 c1 h1 hb1 => ?_
          obtain ⟨f0, f1, f2, f3⟩ := HC.out w1 (hb1.mono (show W.heap.size + 1 ≤ _ by simp))
          have H1 := Lib.hid (And.intro h1 (HW2.out.trans (hb1.mono HW2.out.size)))
          clear h1 hb1
          go_wp2_with fail
          refine HGF2.out _ _ _ H1.out.1 _ ?_
          go_wp2_with fail
          refine HGW.out _ H1.out.2 _ ?_
          unfold gv
          go_wp2_with fail
          refine HGX.out _ _ _ H1.out.1 _ ?_
          unfold gv
          go_wp2_with fail
          refine live_any _ fun w' hb' => ?_
          have HB' := Lib.hid (H1.out.2.trans (hb'.mono H1.out.2.size))
          clear hb'
          go_wp2_with fail
          exact HQ.out _ HB'.out
  · go_enter Try.func6, Try.ntmps6
    go_wp2_with fail
    refine live_any _ fun w' hb' => ?_
    have HB' := Lib.hid (HW2.out.trans (hb'.mono HW2.out.size))
    clear hb'
    go_wp2_with fail
    exact HQ.out _ HB'.out
end Go.Proofs.Ytfieaijehkfepaa
