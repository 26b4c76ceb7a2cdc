/-
  The document's Unpack.
-/
import Derived.Test.YtfieaijehkfepaaBtJ
namespace Go.Proofs.Ytfieaijehkfepaa
open Go.RowKit Go.Maps

set_option maxHeartbeats 1600000 in
theorem runpack_any {w : World} {A B : Option Addr} {n m c d : Nat} {ks : List Int} {ws : List Nat} (hx : IsInts w A n ks) (hv : IsWords w B m ws) (hvb : Bnd ws) (hn : n ≤ 10000) (hm : m ≤ 10000) (Q : Ending → World → Prop)
    (hQ : ∀ w' A' l c', IsWords w' A' l ((unpackO ks ws).getD []) → l ≤ 10000 → Below w.heap.size w w' → Q (.returned (pv A' l c' (unpackO ks ws).isSome)) w') :
    Calls Try.prog 23 #[.slice A n c, .slice B m d] w Q := by
  have hs := Lib.hid (rsize_any (c := c) hx hn)
  have HQ := Lib.hid hQ
  have HX := Lib.hid hx
  have HV := Lib.hid hv
  have HVB := Lib.hid hvb
  have hl1 := hx.len
  have hl2 := hv.len
  have HL := Lib.hid (And.intro hl1 hl2)
  clear hQ hx hv hl1 hl2 hvb
  have hNONE : unpackO ks ws = none → Hid (∀ w', Below w.heap.size w w' → Q (.returned (.tuple #[.slice none 0 0, .bool false])) w') := fun hp => Lib.hid (by
    have hfin := HQ.out
    rw [hp] at hfin
    exact fun w' hb => hfin w' none 0 0 (IsVals.nil _ _) (Nat.zero_le _) hb)
  have HNONE := Lib.hid hNONE
  clear hNONE
  by_cases hgood : n ≤ 100 ∧ okW ks = true
  · obtain ⟨h100, hok⟩ := hgood
    have hN := off_le (ks := ks) (j := n) (by rw [HL.out.1]; exact Nat.le_refl _) (by rw [List.take_of_length_le (by rw [HL.out.1]; exact Nat.le_refl _)]; exact hok)
    have hoff : off ks ks.length = off ks n := by rw [HL.out.1]
    have HOFF := Lib.hid hoff
    have HOK := Lib.hid hok
    have HGD : Hid (n ≤ 100 ∧ okW ks = true) := Lib.hid ⟨h100, hok⟩
    clear hoff hok
    generalize hNN : off ks n = N at *
    have HNN := Lib.hid hNN
    clear hNN
    have hnw : ((N : Int) + 63) / 64 = ((nW N : Nat) : Int) := by unfold nW; omega
    go_enter Try.func23, Try.ntmps23
    go_wp2_with fail
    refine hs.out _ fun q => ?_
    rw [if_pos HGD.out]
    by_cases hmw : m = nW N
    · have hb1 : ((m : Int) == ((N : Int) + 63) / 64) = true := by rw [hnw, beq_iff_eq]; omega
      have hb2 : ((m : Int) != ((N : Int) + 63) / 64) = false := by rw [hnw, hmw]; exact bne_self_eq_false _
      have HMW := Lib.hid (show ws.length = nW (off ks ks.length) by rw [HL.out.2, HOFF.out]; exact hmw)
      clear hnw hmw
      go_wp2_with fail
      go_loopg [7, 8, 9] n (fun g r s i wr => ∃ (j c' : Nat) (A' : Option Addr), j ≤ n ∧ g = n - j ∧ i = .int .i64 (j : Int) ∧ s = .int .i64 (off ks j : Nat) ∧ r = .slice A' j c' ∧ Hid (wr.ownsRow w.heap.size 24 1 (.slice A' j c') j (uvals (fields ks ws j)) ∧ Below w.heap.size w wr))
      case atStart => exact ⟨0, _, _, Nat.zero_le _, rfl, rfl, rfl, rfl, Lib.hid ⟨World.ownsRow_nil _ _ _ _, below_drewN w q⟩⟩
      case round =>
        obtain ⟨j, c', A', hj, hg, rfl, rfl, rfl, HR⟩ := hrel
        have HG := Lib.hid hg
        clear hg
        by_cases hlt : j < n
        · obtain ⟨k, hk, hk64⟩ := okW_at HOK.out (j := j) (by rw [HL.out.1]; exact hlt)
          obtain ⟨b, o, rfl, hb0, c00⟩ := IsInts.at_ HX.out hlt
          rw [hk] at c00
          have C00 := Lib.hid c00
          clear c00
          have c0 := (HR.out.2.cell (p := ⟨b, o + j, none⟩) hb0).trans C00.out
          have hsucc := off_succ (ks := ks) (j := j) (by rw [HL.out.1]; exact hlt)
          rw [hk, Int.toNat_natCast] at hsucc
          have hoj := off_mono (ks := ks) (j := j + 1) (m := n - (j + 1)) (by rw [HL.out.1]; omega)
          rw [show j + 1 + (n - (j + 1)) = n by omega, HNN.out] at hoj
          have hoj1 : off ks j + k ≤ N := by omega
          have HSUCC := Lib.hid hsucc
          have hfs : fields ks ws (j + 1) = fields ks ws j ++ [getF ws (off ks j) k] := by rw [fields, hk, Int.toNat_natCast]
          have HST := fields_step (ws := ws) (by rw [HL.out.1]; exact hlt) hk hk64 HMW.out
          have HGET := rget_any (a := ((off ks j : Nat) : Int)) (k := (k : Int)) (c := d) (HV.out.below HR.out.2) HVB.out (by omega)
          rw [HST] at HGET
          have HGT := Lib.hid HGET
          have HFS := Lib.hid hfs
          have hsz := HR.out.2.size
          clear hk hsucc hoj hfs HGET HST
          generalize off ks j = s at *
          generalize getF ws s k = x at *
          go_wp2_with fail
          refine HGT.out _ ?_
          unfold gv
          go_wp2_with (at_builtin; refine wpList_app rfl (.tmp 41) (.tmp 43) 22 rfl w.heap.size 24 Try.underlying22 infoWord rfl (.slice A' j c') j _ rfl (HR.out.1.alloc _) (some ⟨wr.heap.size, 0, none⟩) 1 1 [.int .u64 (x : Int)] rfl (vals_one _ _ _) (by simp [Value.oneCell']) (by unfold maxLen; omega) (by omega) (by simp; omega) ?_; intro A1 c1 w1 ho1 hg1; have HO1 := Lib.hid ho1; have HB1 := Lib.hid (own_grown (HR.out.2.alloc hsz _) (HR.out.1.alloc _) hg1 (by simp; omega)); have f1 := (HB1.out.cell (p := ⟨b, o + j, none⟩) hb0).trans C00.out; clear ho1 hg1)
          go_roundg (n - (j + 1))
          case measure => have := HG.out; omega
          case rel => exact ⟨j + 1, c1, A1, by omega, rfl, by go_num, by rw [HSUCC.out]; go_num, rfl, Lib.hid ⟨by rw [HFS.out, uvals_append]; exact HO1.out, HB1.out⟩⟩
        · have he : j = n := by omega
          subst he
          have hbit := Lib.hid (fun i => bit_any (c := d) (HV.out.below HR.out.2) HVB.out (by omega) (i := i))
          rw [HNN.out]
          go_wp2_with fail
          go_loopg [12] (64 * m - N) (fun g i wi => ∃ p : Nat, N ≤ p ∧ g = 64 * m - p ∧ i = .int .i64 (p : Int) ∧ wi = wr ∧ Hid (∀ q, N ≤ q → q < p → bitAt ws q = false))
          case atStart => exact ⟨N, Nat.le_refl _, rfl, rfl, rfl, Lib.hid fun q _ _ => by omega⟩
          case round =>
            obtain ⟨p, hp, hg2, rfl, rfl, HP⟩ := hrel
            have HG2 := Lib.hid hg2
            clear hg2
            by_cases hlt2 : p < 64 * m
            · have e : bitN ws p = if bitAt ws p then 1 else 0 := rfl
              have hb := Lib.hid (hbit.out p)
              cases hbj : bitAt ws p with
              | true =>
                rw [hbj] at e
                rw [e] at hb
                have hx : nextB ws N ≠ none := fun h => by
                  have := nextB_none.1 h p hp (by rw [HL.out.2]; exact hlt2)
                  rw [hbj] at this
                  cases this
                have HF := HNONE.out (by unfold unpackO; rw [if_neg]; rw [HOFF.out]; exact fun h => hx h.2.2.2)
                clear e hbj hx
                go_wp2_with fail
                refine hb.out _ (by omega) (by omega) _ ?_
                go_wp2_with fail
                exact HF.out _ HR.out.2
              | false =>
                rw [hbj] at e
                rw [e] at hb
                have HB := Lib.hid hbj
                clear e hbj
                go_wp2_with fail
                refine hb.out _ (by omega) (by omega) _ ?_
                go_wp2_with fail
                go_roundg (64 * m - (p + 1))
                case measure => have := HG2.out; omega
                case rel => exact ⟨p + 1, by omega, rfl, by go_num, rfl, Lib.hid fun q h1 h2 => by
                  by_cases h : q = p
                  · rw [h]; exact HB.out
                  · exact HP.out q h1 (by omega)⟩
            · have hnone : nextB ws N = none := nextB_none.2 fun q h1 h2 => HP.out q h1 (by rw [HL.out.2] at h2; omega)
              have hpp : unpackO ks ws = some (fields ks ws j) := by
                unfold unpackO
                rw [if_pos ⟨by rw [HL.out.1]; exact h100, HOK.out, HMW.out, by rw [HOFF.out]; exact hnone⟩, HL.out.1]
              have hfin := HQ.out
              rw [hpp] at hfin
              have HF := Lib.hid hfin
              clear hnone hfin hpp
              go_wp2_with fail
              exact HF.out _ _ _ _ (by
                obtain ⟨_, _, e, hv1, _⟩ := vals_of_own HR.out.1
                obtain ⟨rfl, rfl⟩ : A' = _ ∧ c' = _ := by simpa using e
                exact hv1) (by omega) HR.out.2
    · have HF := HNONE.out (by unfold unpackO; rw [if_neg]; rw [HOFF.out, HL.out.2]; exact fun h => hmw h.2.2.1)
      have hb1 : ((m : Int) == ((N : Int) + 63) / 64) = false := by rw [hnw, beq_eq_false_iff_ne]; omega
      have hb2 : ((m : Int) != ((N : Int) + 63) / 64) = true := by rw [hnw, bne_iff_ne]; omega
      clear hnw hmw
      go_wp2_with fail
      exact HF.out _ (below_drewN w q)
  · have HF := HNONE.out (by unfold unpackO; rw [if_neg]; rw [HL.out.1]; exact fun h => hgood ⟨h.1, h.2.1⟩)
    have HB := Lib.hid hgood
    clear hgood
    generalize off ks n = N at *
    go_enter Try.func23, Try.ntmps23
    go_wp2_with fail
    refine hs.out _ fun q => ?_
    rw [if_neg HB.out]
    go_wp2_with fail
    exact HF.out _ (below_drewN w q)
end Go.Proofs.Ytfieaijehkfepaa
