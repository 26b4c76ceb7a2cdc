/-
  The document's Pack.
-/
import Derived.Test.YtfieaijehkfepaaBtH
namespace Go.Proofs.Ytfieaijehkfepaa
open Go.RowKit Go.Maps

theorem below_drewN (w : World) (q : Nat) : Below w.heap.size w (w.drewN q) := ⟨rfl, rfl, rfl, Nat.le_refl _, fun _ _ => rfl⟩

set_option maxHeartbeats 1600000 in
theorem rpack_any {w : World} {A B : Option Addr} {n m c d : Nat} {ks : List Int} {vs : List Nat} (hx : IsInts w A n ks) (hv : IsWords w B m vs) (hvb : Bnd vs) (hn : n ≤ 10000) (hm : m ≤ 10000) (Q : Ending → World → Prop)
    (hQ : ∀ w' A' l c', IsWords w' A' l ((packO ks vs).getD []) → l ≤ 10000 → Below w.heap.size w w' → Q (.returned (pv A' l c' (packO ks vs).isSome)) w') :
    Calls Try.prog 21 #[.slice A n c, .slice B m d] w Q := by
  have hs := Lib.hid (rsize_any (c := c) hx hn)
  have HQ := Lib.hid hQ
  have HX := Lib.hid hx
  have HV := Lib.hid hv
  have HVB := Lib.hid hvb
  have hl1 := hx.len
  have hl2 := hv.len
  have HL := Lib.hid (And.intro hl1 hl2)
  clear hQ hx hv hl1 hl2 hvb
  by_cases hgood : n ≤ 100 ∧ okW ks = true
  · obtain ⟨h100, hok⟩ := hgood
    have hN := off_le (ks := ks) (j := n) (by rw [HL.out.1]; exact Nat.le_refl _) (by rw [List.take_of_length_le (by rw [HL.out.1]; exact Nat.le_refl _)]; exact hok)
    have hoff : off ks ks.length = off ks n := by rw [HL.out.1]
    have HOFF := Lib.hid hoff
    have HOK := Lib.hid hok
    have HGD : Hid (n ≤ 100 ∧ okW ks = true) := Lib.hid ⟨h100, hok⟩
    clear hoff hok
    generalize hNN : off ks n = N at *
    have HNN := Lib.hid hNN
    clear hNN
    go_enter Try.func21, Try.ntmps21
    go_wp2_with fail
    refine hs.out _ fun q => ?_
    rw [if_pos HGD.out]
    by_cases hnm : m = n
    · subst hnm
      have hNW : nW N ≤ 10000 := by unfold nW; omega
      have hmk : ((N : Int) + 63) / 64 = ((nW N : Nat) : Int) := by unfold nW; omega
      go_wp2_with (at_make; refine wpList_mk rfl (.tmp 25) (.tmp 25) 22 rfl 24 Try.underlying22 infoWord rfl _ (nW N) rfl rfl hmk (by omega) (by unfold maxLen; omega) ?_; intro w1 ho1 hb1; have HO1 := Lib.hid ho1; have HB1 := Lib.hid hb1; clear ho1 hb1)
      have HB2 : Hid (Below w.heap.size w w1) := Lib.hid ⟨HB1.out.os, HB1.out.tape, HB1.out.output, HB1.out.size, HB1.out.block⟩
      have HIN : Hid (IsWords w1 (some ⟨w.heap.size, 0, none⟩) (nW N) (packTo ks vs 0)) := Lib.hid (by
        obtain ⟨_, _, e, hv1, _⟩ := vals_of_own HO1.out
        obtain ⟨rfl, rfl⟩ : some (⟨w.heap.size, 0, none⟩ : Addr) = _ ∧ nW N = _ := by simpa using e
        rw [packTo, HOFF.out]
        have : uvals (List.replicate (nW N) 0) = List.replicate (nW N) (Value.int .u64 0) := by simp [uvals]
        unfold IsWords
        rw [this]
        exact hv1)
      generalize nW N = W at *
      clear HO1 hmk HB1
      go_loopg [7, 8, 9] m (fun g r s i wr => ∃ (j l c' : Nat) (A' : Option Addr), j ≤ m ∧ g = m - j ∧ i = .int .i64 (j : Int) ∧ s = .int .i64 (off ks j : Nat) ∧ r = .slice A' l c' ∧ l ≤ 10000 ∧ Hid (IsWords wr A' l (packTo ks vs j) ∧ Below w.heap.size w wr ∧ fitsTo ks vs j = true))
      case atStart => exact ⟨0, _, _, _, Nat.zero_le _, rfl, rfl, rfl, rfl, hNW, Lib.hid ⟨HIN.out, HB2.out, rfl⟩⟩
      case round =>
        obtain ⟨j, l, c', A', hj, hg, rfl, rfl, rfl, hl, HR⟩ := hrel
        have HG := Lib.hid hg
        clear hg
        by_cases hlt : j < m
        · obtain ⟨k, hk, hk64⟩ := okW_at HOK.out (j := j) (by rw [HL.out.1]; exact hlt)
          obtain ⟨b, o, rfl, hb0, c0⟩ := IsInts.at_ (HX.out.below HR.out.2.1) hlt
          obtain ⟨b2, o2, rfl, hb2, c2⟩ := IsWords.at_ (HV.out.below HR.out.2.1) hlt
          rw [hk] at c0
          have hsucc := off_succ (ks := ks) (j := j) (by rw [HL.out.1]; exact hlt)
          rw [hk, Int.toNat_natCast] at hsucc
          have hoj := off_mono (ks := ks) (j := j + 1) (m := m - (j + 1)) (by rw [HL.out.1]; omega)
          rw [show j + 1 + (m - (j + 1)) = m by omega, HNN.out] at hoj
          have hoj1 : off ks j + k ≤ N := by omega
          have HSUCC := Lib.hid hsucc
          have hvb := HVB.out.getD j
          have hfa : fitsAt ks vs j = decide (vs.getD j 0 < 2 ^ k) := by unfold fitsAt; rw [hk, Int.toNat_natCast]
          have HST := Lib.hid (packTo_step (vs := vs) (by rw [HL.out.1]; exact hlt) hk hk64)
          have HBAD := Lib.hid (fitsTo_bad (ks := ks) (vs := vs) hlt)
          have HFS := Lib.hid (fitsTo_succ ks vs j)
          have hz := shr_zero (v := vs.getD j 0) (k := k)
          clear hk hsucc hoj
          have HPB := Lib.hid (packTo_bnd ks vs j)
          generalize vs.getD j 0 = v at *
          generalize off ks j = s at *
          have hsr := shr64 v k
          have HSET := Lib.hid (fun (W : World) (A'' : Option Addr) (n' c' : Nat) hh => rset_any (w := W) (A := A'') (a := (s : Int)) (k := (k : Int)) (n := n') (c := c') hh HPB.out hvb)
          have HVL := Lib.hid hvb
          generalize v >>> k = z at *
          have HFA := Lib.hid hfa
          have HZ := Lib.hid hz
          have hc0 := Lib.hid c0
          have hc2 := Lib.hid c2
          clear hvb hfa hz
          have hj0 : (0 : Int) ≤ (j : Int) := by omega
          have hjn : (j : Int) < (m : Int) := by omega
          by_cases hk' : k < 64
          · have hkd : decide ((k : Int) < 64) = true := by rw [decide_eq_true_iff]; omega
            by_cases hz0 : z = 0
            · have hb1 : ((z : Int) == 0) = true := by rw [beq_iff_eq]; omega
              have HFIT := Lib.hid (HZ.out.1 hz0)
              clear hz0
              go_wp2_with fail
              go_region
              all_goals
                go_wp2_with fail
                go_region_with (go_at_call 14; refine HSET.out _ _ _ _ HR.out.1.drew.drew (by omega) _ (fun w3 A3 l3 c3 hi3 hl3 hb3 => ?_); rw [HST.out] at hi3 ⊢; simp only [Option.getD_some, Option.isSome_some] at hi3 ⊢; have f3 := (hb3.cell (p := ⟨b, o + j, none⟩) hb0).trans c0; have HI3 := Lib.hid (And.intro hi3 hb3); clear hi3 hb3)
                all_goals
                  go_wp2_with fail
                  go_roundg (m - (j + 1))
                  case measure => have := HG.out; omega
                  case rel => exact ⟨j + 1, l3, c3, A3, by omega, rfl, by go_num, by rw [HSUCC.out]; go_num, rfl, by omega, Lib.hid ⟨HI3.out.1, HR.out.2.1.drew.drew.trans (HI3.out.2.mono HR.out.2.1.size), by rw [HFS.out, HR.out.2.2, HFA.out, decide_eq_true (HFIT.out)]; rfl⟩⟩
            · have hb1 : ((z : Int) == 0) = false := by rw [beq_eq_false_iff_ne]; omega
              have hp : packO ks vs = none := by
                unfold packO
                rw [if_neg]
                rw [HL.out.1, HBAD.out (by rw [HFA.out]; exact decide_eq_false fun h => hz0 (HZ.out.2 h))]
                simp
              have hfin := HQ.out
              rw [hp] at hfin
              have HF := Lib.hid hfin
              clear hfin hp hz0
              go_wp2_with fail
              go_region
              all_goals
                go_wp2_with fail
                exact HF.out _ none 0 0 (IsVals.nil _ _) (Nat.zero_le _) HR.out.2.1.drew
          · have hk64' : k = 64 := by omega
            subst hk64'
            have HFIT := HVL
            go_wp2_with fail
            go_region
            all_goals
              go_wp2_with fail
              go_region_with (go_at_call 14; refine HSET.out _ _ _ _ HR.out.1.drew.drew (by omega) _ (fun w3 A3 l3 c3 hi3 hl3 hb3 => ?_); rw [HST.out] at hi3 ⊢; simp only [Option.getD_some, Option.isSome_some] at hi3 ⊢; have f3 := (hb3.cell (p := ⟨b, o + j, none⟩) hb0).trans c0; have HI3 := Lib.hid (And.intro hi3 hb3); clear hi3 hb3)
              all_goals
                go_wp2_with fail
                go_roundg (m - (j + 1))
                case measure => have := HG.out; omega
                case rel => exact ⟨j + 1, l3, c3, A3, by omega, rfl, by go_num, by rw [HSUCC.out]; go_num, rfl, by omega, Lib.hid ⟨HI3.out.1, HR.out.2.1.drew.drew.trans (HI3.out.2.mono HR.out.2.1.size), by rw [HFS.out, HR.out.2.2, HFA.out, decide_eq_true (HFIT.out)]; rfl⟩⟩
        · have he : j = m := by omega
          subst he
          have hp : packO ks vs = some (packTo ks vs j) := by
            unfold packO
            rw [if_pos]
            · rw [HL.out.1]
            · rw [HL.out.1, HL.out.2]; exact ⟨rfl, h100, HOK.out, HR.out.2.2⟩
          have hfin := HQ.out
          rw [hp] at hfin
          have HF := Lib.hid hfin
          clear hfin hp
          generalize off ks j = s at *
          go_wp2_with fail
          exact HF.out _ _ _ _ HR.out.1 hl HR.out.2.1
    · have hp : packO ks vs = none := by unfold packO; rw [if_neg]; rw [HL.out.1, HL.out.2]; exact fun h => hnm h.1.symm
      have hfin := HQ.out
      rw [hp] at hfin
      have HF := Lib.hid hfin
      have hb : ((m : Int) == (n : Int)) = false := by rw [beq_eq_false_iff_ne]; omega
      have hbn : ((m : Int) != (n : Int)) = true := by rw [bne_iff_ne]; omega
      clear hfin hp
      go_wp2_with fail
      exact HF.out _ none 0 0 (IsVals.nil _ _) (Nat.zero_le _) (below_drewN w q)
  · have hp : packO ks vs = none := by unfold packO; rw [if_neg]; rw [HL.out.1]; exact fun h => hgood ⟨h.2.1, h.2.2.1⟩
    have hfin := HQ.out
    rw [hp] at hfin
    have HF := Lib.hid hfin
    have HB := Lib.hid hgood
    clear hfin hp hgood
    generalize off ks n = N at *
    go_enter Try.func21, Try.ntmps21
    go_wp2_with fail
    refine hs.out _ fun q => ?_
    rw [if_neg HB.out]
    go_wp2_with fail
    exact HF.out _ none 0 0 (IsVals.nil _ _) (Nat.zero_le _) (below_drewN w q)
end Go.Proofs.Ytfieaijehkfepaa
