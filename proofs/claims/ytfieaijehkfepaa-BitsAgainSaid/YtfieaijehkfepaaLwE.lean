/-
  The law BitsAgain, walked.
-/
import Derived.Test.YtfieaijehkfepaaLwA
namespace Go.Proofs.Ytfieaijehkfepaa
open Go.RowKit Go.Maps

theorem off_fit {ks : List Int} {m : Nat} (hm : m ≤ ks.length) : off ks m ≤ 64 * nW (off ks ks.length) := by
  have h2 := off_mono (ks := ks) (j := m) (m := ks.length - m) (by omega)
  rw [show m + (ks.length - m) = ks.length by omega] at h2
  have h3 := nW_fit (off ks ks.length)
  omega

theorem pack_step_fit {ks : List Int} {vs : List Nat} {m : Nat} (hm : m < ks.length) : off ks m + (ks.getD m 0).toNat ≤ 64 * (packTo ks vs m).length := by
  rw [packTo_length, ← off_succ hm]
  exact off_fit (by omega)

theorem pack_above {ks : List Int} {vs : List Nat} : ∀ {m i}, m ≤ ks.length → off ks m ≤ i → bitAt (packTo ks vs m) i = false
  | 0, i, _, _ => by
    unfold bitAt packTo
    rw [List.getD_eq_getElem?_getD, List.getElem?_replicate]
    split <;> simp
  | m + 1, i, hm, hi => by
    have h1 := off_succ (ks := ks) (j := m) (by omega)
    rw [packTo, bitAt_setF _ _ _ _ _ (pack_step_fit (by omega)), if_neg (by omega)]
    exact pack_above (by omega) (by omega)

theorem pack_at {ks : List Int} {vs : List Nat} {j d : Nat} (hd : d < (ks.getD j 0).toNat) : ∀ {m}, j < m → m ≤ ks.length → bitAt (packTo ks vs m) (off ks j + d) = (vs.getD j 0).testBit d
  | m + 1, hj, hm => by
    have h1 := off_succ (ks := ks) (j := m) (by omega)
    rw [packTo, bitAt_setF _ _ _ _ _ (pack_step_fit (by omega))]
    by_cases h : j = m
    · subst h
      rw [if_pos (by omega), Nat.add_sub_cancel_left]
    · have h2 := off_mono (ks := ks) (j := j + 1) (m := m - (j + 1)) (by omega)
      rw [show j + 1 + (m - (j + 1)) = m by omega, off_succ (by omega)] at h2
      rw [if_neg (by omega)]
      exact pack_at hd (by omega) (by omega)

theorem getF_pack {ks : List Int} {vs : List Nat} {j : Nat} (hj : j < ks.length) (hf : fitsAt ks vs j = true) : getF (packTo ks vs ks.length) (off ks j) (ks.getD j 0).toNat = vs.getD j 0 := by
  simp only [fitsAt, decide_eq_true_iff] at hf
  refine eq_of_bits (getF_lt _ _ _) hf fun d hd => ?_
  rw [testBit_getF, decide_eq_true hd, Bool.true_and]
  exact pack_at hd hj (Nat.le_refl _)

theorem fitsTo_at {ks : List Int} {vs : List Nat} {n j : Nat} (h : fitsTo ks vs n = true) (hj : j < n) : fitsAt ks vs j = true := by
  rw [fitsTo, List.all_eq_true] at h
  exact h j (List.mem_range.2 hj)

theorem unpack_pack {ks : List Int} {vs ws : List Nat} (h : packO ks vs = some ws) : unpackO ks ws = some vs ∧ ws = packTo ks vs ks.length ∧ okW ks = true ∧ ks.length = vs.length ∧ ws.length = nW (off ks ks.length) ∧ ∀ j, j < ks.length → getF ws (off ks j) (ks.getD j 0).toNat = vs.getD j 0 := by
  unfold packO at h
  split at h
  · rename_i hc
    obtain ⟨h1, h2, h3, h4⟩ := hc
    cases h
    have hg : ∀ j, j < ks.length → getF (packTo ks vs ks.length) (off ks j) (ks.getD j 0).toNat = vs.getD j 0 := fun j hj => getF_pack hj (fitsTo_at h4 hj)
    refine ⟨?_, rfl, h3, h1, packTo_length _ _ _, hg⟩
    unfold unpackO
    rw [if_pos ⟨h2, h3, packTo_length _ _ _, nextB_none.2 fun q h5 _ => pack_above (Nat.le_refl _) h5⟩]
    congr 1
    refine List.ext_getElem (by rw [fields_length, h1]) fun j g1 g2 => ?_
    rw [fields_length] at g1
    have e1 := fields_getD ks (packTo ks vs ks.length) g1
    rw [hg j g1] at e1
    rw [List.getD_eq_getElem?_getD, List.getD_eq_getElem?_getD, List.getElem?_eq_getElem (by rw [fields_length]; exact g1), List.getElem?_eq_getElem g2] at e1
    exact e1
  · cases h

theorem off_find {ks : List Int} {i : Nat} : ∀ {m}, m ≤ ks.length → i < off ks m → ∃ j, j < m ∧ off ks j ≤ i ∧ i < off ks j + (ks.getD j 0).toNat
  | 0, _, h => by simp [off] at h
  | m + 1, hm, h => by
    by_cases hi : i < off ks m
    · obtain ⟨j, h1, h2, h3⟩ := off_find (by omega) hi
      exact ⟨j, by omega, h2, h3⟩
    · rw [off_succ (by omega)] at h
      exact ⟨m, by omega, by omega, h⟩

theorem pack_unpack {ks : List Int} {vs ws : List Nat} (hb : Bnd ws) (h : unpackO ks ws = some vs) : packO ks vs = some ws ∧ Bnd vs := by
  unfold unpackO at h
  split at h
  · rename_i hc
    obtain ⟨h1, h2, h3, h4⟩ := hc
    cases h
    have hk : ∀ j, j < ks.length → (ks.getD j 0).toNat ≤ 64 := fun j hj => by
      obtain ⟨k, e, hk⟩ := okW_at h2 hj
      rw [e]; exact hk
    refine ⟨?_, ?_⟩
    · unfold packO
      rw [if_pos]
      · congr 1
        refine words_ext (by rw [packTo_length, h3]) (packTo_bnd _ _ _) hb fun i hi => ?_
        by_cases ho : i < off ks ks.length
        · obtain ⟨j, g1, g2, g3⟩ := off_find (Nat.le_refl _) ho
          have e := pack_at (ks := ks) (vs := fields ks ws ks.length) (j := j) (d := i - off ks j) (by omega) g1 (Nat.le_refl _)
          rw [show off ks j + (i - off ks j) = i by omega, fields_getD ks ws g1, testBit_getF, decide_eq_true (by omega), Bool.true_and, show off ks j + (i - off ks j) = i by omega] at e
          exact e
        · rw [pack_above (Nat.le_refl _) (by omega), nextB_none.1 h4 i (by omega) (by rw [packTo_length, ← h3] at hi; exact hi)]
      · refine ⟨(fields_length _ _ _).symm, h1, h2, ?_⟩
        rw [fitsTo, List.all_eq_true]
        intro j hj
        rw [List.mem_range] at hj
        simp only [fitsAt, decide_eq_true_iff]
        rw [fields_getD ks ws hj]
        exact getF_lt _ _ _
    · intro x hx
      obtain ⟨j, hj, rfl⟩ := List.mem_iff_getElem.1 hx
      rw [fields_length] at hj
      have e := fields_getD ks ws hj
      rw [List.getD_eq_getElem?_getD, List.getElem?_eq_getElem (by rw [fields_length]; exact hj)] at e
      simp only [Option.getD_some] at e
      rw [e]
      exact getF_64 (hk j hj)
  · cases h

set_option maxRecDepth 100000 in
set_option maxHeartbeats 3200000 in
theorem BitsAgain_walk (A : Option Addr) (n c : Nat) (ks : List Int) (B : Option Addr) (m d : Nat) (vs : List Int) (C : Option Addr) (l e : Nat) (zs : List Int) (W : World)
    (i : IsVals W A n (ks.map (.int .i64))) (hm : n ≤ maxLen) (_ : ∀ x ∈ ks, (Lit.int .i64 x).wf = true) (i2 : IsVals W B m (vs.map (.int .u64))) (hm2 : m ≤ maxLen) (hv : ∀ x ∈ vs, (Lit.int .u64 x).wf = true) (i3 : IsVals W C l (zs.map (.int .u64))) (hm3 : l ≤ maxLen) (hz : ∀ x ∈ zs, (Lit.int .u64 x).wf = true) (Q : Ending → World → Prop) (hQ : ∀ w', Below W.heap.size W w' → Q (.returned (.bool true)) w') :
    Calls Try.prog 7 #[.slice A n c, .slice B m d, .slice C l e] W Q := by
  obtain ⟨vs, hx2, hb2⟩ := words_of i2 hv
  obtain ⟨ws, hx3, hb3⟩ := words_of i3 hz
  have hx : IsInts W A n ks := i
  clear i2 hv i3 hz i
  have HQ := Lib.hid hQ
  have HX := Lib.hid hx
  have HX2 := Lib.hid hx2
  have HX3 := Lib.hid hx3
  have HB2 := Lib.hid hb2
  have HB3 := Lib.hid hb3
  have HL := Lib.hid hx.len
  clear hx hx2 hx3 hb2 hb3 hQ
  unfold maxLen at hm hm2 hm3
  by_cases hall : n ≤ 120 ∧ m ≤ 120 ∧ l ≤ 120
  · obtain ⟨g1, g2, g3⟩ := hall
    have HP := Lib.hid (fun w' (hb : Below W.heap.size W w') => pack_any (w := w') (c := c) (d := d) (HX.out.below hb) (HX2.out.below hb) HB2.out (by omega) (by omega))
    have HU := Lib.hid (fun w' (hb : Below W.heap.size W w') => unpack_any (w := w') (c := c) (d := e) (HX.out.below hb) (HX3.out.below hb) HB3.out (by omega) (by omega))
    have hT : ((unpackO ks ws).isSome = true ∧ packO ks ((unpackO ks ws).getD []) = some ws ∧ Bnd ((unpackO ks ws).getD [])) ∨ ((unpackO ks ws).isSome = false ∧ Bnd ((unpackO ks ws).getD [])) := by
      cases h : unpackO ks ws with
      | none => exact .inr ⟨rfl, fun x hx => by simp at hx⟩
      | some us => exact .inl ⟨rfl, (pack_unpack HB3.out h).1, (pack_unpack HB3.out h).2⟩
    have HT := Lib.hid hT
    clear hT
    unfold pv at HU
    generalize (unpackO ks ws).isSome = T at *
    generalize (unpackO ks ws).getD [] = U at *
    cases hp : packO ks vs with
    | none =>
      rw [hp] at HP
      clear hp
      go_enter Try.func7, Try.ntmps7
      go_wp2_with fail
      refine HP.out _ (Below.refl _ W) _ fun w0 A1 l1 c1 h1 hl1 hb1 => ?_
      unfold pv
      have HB0 := Lib.hid hb1
      clear h1 hb1
      go_wp2_with fail
      refine HU.out _ HB0.out _ fun w3 A3 l3 c3 h3 hl3 hb3 => ?_
      have hb3' := HB0.out.trans (hb3.mono HB0.out.size)
      have H3 := Lib.hid (And.intro h3 hb3')
      clear h3 hb3 hb3'
      rcases HT.out with ⟨rfl, ht2, ht3⟩ | ⟨rfl, ht3⟩
      · have HPK := Lib.hid ht2
        have HUB := Lib.hid ht3
        clear ht2 ht3
        go_wp2_with fail
        refine pack_any (HX.out.below H3.out.2) H3.out.1 HUB.out (by omega) hl3 _ fun w4 A4 l4 c4 h4 hl4 hb4 => ?_
        unfold pv
        rw [HPK.out] at h4 ⊢
        have H4 := Lib.hid (And.intro (show IsWords w4 A4 l4 ws from h4) (H3.out.2.trans (hb4.mono H3.out.2.size)))
        clear h4 hb4
        go_wp2_with fail
        refine same_any H4.out.1 (HX3.out.below H4.out.2) (by omega) (by omega) _ fun q4 => ?_
        simp only [decide_true]
        go_wp2_with fail
        refine live_any _ fun w' hb' => ?_
        have HB' := Lib.hid (H4.out.2.trans ((below_of_drewN hb').mono H4.out.2.size))
        clear hb'
        go_wp2_with fail
        exact HQ.out _ HB'.out
      · have HUB := Lib.hid ht3
        clear ht3
        go_wp2_with fail
        refine pack_any (HX.out.below H3.out.2) H3.out.1 HUB.out (by omega) hl3 _ fun w4 A4 l4 c4 h4 hl4 hb4 => ?_
        unfold pv
        generalize (packO ks U).isSome = Z at *
        have H4 := Lib.hid (H3.out.2.trans (hb4.mono H3.out.2.size))
        clear h4 hb4
        go_wp2_with fail
        refine live_any _ fun w' hb' => ?_
        have HB' := Lib.hid (H4.out.trans (hb'.mono H4.out.size))
        clear hb'
        go_wp2_with fail
        exact HQ.out _ HB'.out
    | some P =>
      rw [hp] at HP
      obtain ⟨e1, e2, hok, e3, e4, e5⟩ := unpack_pack hp
      have HE1 := Lib.hid e1
      have HOK := Lib.hid hok
      have HPB : Hid (Bnd P) := Lib.hid (by rw [e2]; exact packTo_bnd _ _ _)
      have HE4 := Lib.hid e4
      have HE5 := Lib.hid e5
      have hmn : m = n := by rw [← HL.out, e3, HX2.out.len]
      subst hmn
      clear hp e1 e2 hok e3 e4 e5
      go_enter Try.func7, Try.ntmps7
      go_wp2_with fail
      refine HP.out _ (Below.refl _ W) _ fun w1 A1 l1 c1 h1 hl1 hb1 => ?_
      unfold pv
      have H1 := Lib.hid (And.intro (show IsWords w1 A1 l1 P from h1) hb1)
      clear h1 hb1
      go_wp2_with fail
      refine unpack_any (HX.out.below H1.out.2) H1.out.1 HPB.out (by omega) hl1 _ fun w2 A2 l2 c2 h2 hl2 hb2 => ?_
      unfold pv
      rw [HE1.out] at h2 ⊢
      have H2 := Lib.hid (And.intro (show IsWords w2 A2 l2 vs from h2) (And.intro (H1.out.1.below hb2) (H1.out.2.trans (hb2.mono H1.out.2.size))))
      clear h2 hb2
      go_wp2_with fail
      refine same_any H2.out.1 (HX2.out.below H2.out.2.2) (by omega) (by omega) _ fun q => ?_
      simp only [decide_true]
      go_wp2_with fail
      go_loopg [11, 12] m (fun g s i wr => ∃ j : Nat, j ≤ m ∧ g = m - j ∧ i = .int .i64 (j : Int) ∧ s = .int .i64 (off ks j : Nat) ∧ Hid (Below w2.heap.size w2 wr))
      case atStart => exact ⟨0, Nat.zero_le _, rfl, rfl, rfl, Lib.hid (below_drewN w2 q)⟩
      case round =>
        obtain ⟨j, hj, hg, rfl, rfl, HR⟩ := hrel
        have HG := Lib.hid hg
        clear hg
        have HBR := Lib.hid (H2.out.2.2.trans (HR.out.mono H2.out.2.2.size))
        by_cases hlt : j < m
        · obtain ⟨k, hk, hk64⟩ := okW_at HOK.out (j := j) (by rw [HL.out]; exact hlt)
          obtain ⟨b, o, rfl, hb0, c0⟩ := IsInts.at_ (HX.out.below HBR.out) hlt
          obtain ⟨b2, o2, rfl, hb20, c2⟩ := IsWords.at_ (HX2.out.below HBR.out) hlt
          rw [hk] at c0
          have hsucc := off_succ (ks := ks) (j := j) (by rw [HL.out]; exact hlt)
          rw [hk, Int.toNat_natCast] at hsucc
          have HSUCC := Lib.hid hsucc
          have hfit := off_le (ks := ks) (j := ks.length) (Nat.le_refl _) (by rw [List.take_length]; exact HOK.out)
          have hoj := off_mono (ks := ks) (j := j + 1) (m := m - (j + 1)) (by rw [HL.out]; omega)
          rw [show j + 1 + (m - (j + 1)) = m by omega, hsucc] at hoj
          rw [HL.out] at hfit
          have hoj2 : off ks j + k ≤ 7680 := by omega
          have hfst := fields_step (ws := P) (by rw [HL.out]; exact hlt) hk hk64 HE4.out
          have h5 := HE5.out j (by rw [HL.out]; exact hlt)
          rw [hk, Int.toNat_natCast] at h5
          rw [h5] at hfst
          have HGET := get_any (a := ((off ks j : Nat) : Int)) (k := (k : Int)) (c := c1) (H2.out.2.1.below HR.out) HPB.out (by omega)
          rw [hfst] at HGET
          have HGT := Lib.hid HGET
          clear hk hsucc hoj hfit hfst h5 HGET
          generalize vs.getD j 0 = x at *
          generalize off ks j = s at *
          go_wp2_with fail
          refine HGT.out _ ?_
          unfold gv
          go_wp2_with fail
          go_roundg (m - (j + 1))
          case measure => have := HG.out; omega
          case rel => exact ⟨j + 1, by omega, rfl, by go_num, by rw [HSUCC.out]; go_num, HR⟩
        · have he : j = m := by omega
          subst he
          have HB0 := HBR
          generalize off ks j = s at *
          go_wp2_with fail
          refine HU.out _ HB0.out _ fun w3 A3 l3 c3 h3 hl3 hb3 => ?_
          have hb3' := HB0.out.trans (hb3.mono HB0.out.size)
          have H3 := Lib.hid (And.intro h3 hb3')
          clear h3 hb3 hb3'
          rcases HT.out with ⟨rfl, ht2, ht3⟩ | ⟨rfl, ht3⟩
          · have HPK := Lib.hid ht2
            have HUB := Lib.hid ht3
            clear ht2 ht3
            go_wp2_with fail
            refine pack_any (HX.out.below H3.out.2) H3.out.1 HUB.out (by omega) hl3 _ fun w4 A4 l4 c4 h4 hl4 hb4 => ?_
            unfold pv
            rw [HPK.out] at h4 ⊢
            have H4 := Lib.hid (And.intro (show IsWords w4 A4 l4 ws from h4) (H3.out.2.trans (hb4.mono H3.out.2.size)))
            clear h4 hb4
            go_wp2_with fail
            refine same_any H4.out.1 (HX3.out.below H4.out.2) (by omega) (by omega) _ fun q4 => ?_
            simp only [decide_true]
            go_wp2_with fail
            refine live_any _ fun w' hb' => ?_
            have HB' := Lib.hid (H4.out.2.trans ((below_of_drewN hb').mono H4.out.2.size))
            clear hb'
            go_wp2_with fail
            exact HQ.out _ HB'.out
          · have HUB := Lib.hid ht3
            clear ht3
            go_wp2_with fail
            refine pack_any (HX.out.below H3.out.2) H3.out.1 HUB.out (by omega) hl3 _ fun w4 A4 l4 c4 h4 hl4 hb4 => ?_
            unfold pv
            generalize (packO ks U).isSome = Z at *
            have H4 := Lib.hid (H3.out.2.trans (hb4.mono H3.out.2.size))
            clear h4 hb4
            go_wp2_with fail
            refine live_any _ fun w' hb' => ?_
            have HB' := Lib.hid (H4.out.trans (hb'.mono H4.out.size))
            clear hb'
            go_wp2_with fail
            exact HQ.out _ HB'.out
  · have hall' : 120 < n ∨ n ≤ 120 ∧ 120 < m ∨ n ≤ 120 ∧ m ≤ 120 ∧ 120 < l := by omega
    clear hall
    rcases hall' with h | ⟨h, h2⟩ | ⟨h, h2, h3⟩
    all_goals
      go_enter Try.func7, Try.ntmps7
      go_wp2_with fail
      refine live_any _ fun w' hb' => ?_
      have HB' := Lib.hid hb'
      clear hb'
      go_wp2_with fail
      exact HQ.out _ HB'.out
end Go.Proofs.Ytfieaijehkfepaa
