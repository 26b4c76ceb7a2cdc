/-
  Next, walked.
-/
import Derived.Test.YtfieaijehkfepaaBtE
import Derived.Lib.MinMax
namespace Go.Proofs.Ytfieaijehkfepaa
open Go.RowKit Go.Maps

set_option maxHeartbeats 1600000 in
theorem next_any {w : World} {A : Option Addr} {n c : Nat} {ws : List Nat} (hx : IsWords w A n ws) (hb : Bnd ws) (hn : n ≤ 100000) (f : Int) (a : Nat) (hfa : f.toNat = a) (hf63 : f ≤ 9223372036854775807) (Q : Ending → World → Prop)
    (hQ : Q (.returned (nv (nextB ws a))) w) :
    Calls Try.prog 16 #[.slice A n c, .int .i64 f] w Q := by
  have HQ := Lib.hid hQ
  have hlen := hx.len
  have HL := Lib.hid hlen
  have HX := Lib.hid hx
  have HB := Lib.hid hb
  have hm := Lib.hid (fun (W : World) (k : Nat) (hk : k ≤ 64) => mask_k (w := W) hk)
  clear hQ hx hb hlen
  have hmx : max f 0 = (a : Int) := by omega
  have ha63 : a ≤ 9223372036854775807 := by omega
  clear hfa hf63
  go_enter Try.func16, Try.ntmps16
  go_wp2_with fail
  go_loopg [6] (n - a / 64) (fun g i wr => ∃ k : Nat, a / 64 ≤ k ∧ g = n - k ∧ i = .int .i64 (k : Int) ∧ wr = w ∧ ∀ q, a ≤ q → q < 64 * k → bitAt ws q = false)
  case atStart => exact ⟨a / 64, Nat.le_refl _, rfl, by go_num, rfl, fun q _ _ => by omega⟩
  case round =>
    obtain ⟨k, hk, hg, rfl, rfl, hq⟩ := hrel
    have HG := Lib.hid hg
    have HP := Lib.hid hq
    clear hg hq
    by_cases hlt : k < n
    · obtain ⟨b, o, rfl, _, c0⟩ := HX.out.at_ hlt
      have hw : wordFrom ws a k = if k = a / 64 then (ws.getD k 0 >>> (a % 64)) <<< (a % 64) % 2 ^ 64 else ws.getD k 0 := rfl
      have hwl := wordFrom_lt (a := a) (k := k) HB.out
      have HZ := Lib.hid (fun h => wordFrom_zero (ws := ws) hk h HP.out)
      have HF := Lib.hid (fun at' x (s : Srch (wordFrom ws a k) at' x 1) => wordFrom_found hk (by rw [HL.out]; exact hlt) s HP.out)
      have hk6 : k ≤ 100000 := by omega
      generalize ws.getD k 0 = x at *
      generalize hN : wordFrom ws a k = N at *
      have HWL := Lib.hid hwl
      have hcase : (k = a / 64 ∧ ((k : Int) == (a : Int) / 64) = true ∧ (x >>> (a % 64)) <<< (a % 64) % 2 ^ 64 = N) ∨ (((k : Int) == (a : Int) / 64) = false ∧ x = N) := by
        by_cases h : k = a / 64
        · rw [if_pos h] at hw
          exact .inl ⟨h, by rw [beq_iff_eq]; omega, hw.symm⟩
        · rw [if_neg h] at hw
          exact .inr ⟨by rw [beq_eq_false_iff_ne]; omega, hw.symm⟩
      clear hw hN hwl
      rcases hcase with ⟨hka, hke, hxN⟩ | ⟨hke, rfl⟩
      · have hs := shr64 x (a % 64)
        generalize x >>> (a % 64) = y at *
        have hl := shl64 y (a % 64)
        rw [hxN] at hl
        have HK := Lib.hid hk
        clear hxN hk hka
        by_cases hN0 : N = 0
        · have HN0 := Lib.hid hN0
          have hb0 : ((N : Int) == 0) = true := by rw [beq_iff_eq]; omega
          clear hN0
          go_wp2_with fail
          go_roundg (n - (k + 1))
          case measure => have := HG.out; omega
          case rel => exact ⟨k + 1, by have := HK.out; omega, rfl, by go_num, rfl, HZ.out HN0.out⟩
        · have hst := Lib.hid (Srch.start hN0 HWL.out)
          have hb0 : ((N : Int) == 0) = false := by rw [beq_eq_false_iff_ne]; omega
          clear hN0
          go_wp2_with fail
          simp only [hs, hl]
          go_loopg [7, 8, 9] 32 (fun g x t h wi => ∃ (z' t' h' e : Nat), g = h' ∧ x = .int .u64 (z' : Int) ∧ t = .int .i64 (t' : Int) ∧ h = .int .i64 (h' : Int) ∧ wi = wr ∧ e ≤ 6 ∧ Hid (h' = 2 ^ e / 2 ∧ Srch N t' z' (2 ^ e)))
          case atStart => exact ⟨N, 0, 32, 6, rfl, rfl, rfl, rfl, rfl, by omega, Lib.hid ⟨rfl, hst.out⟩⟩
          case round =>
            obtain ⟨z', t', h', e, hg2, rfl, rfl, rfl, rfl, he6, HS⟩ := hrel
            have HG2 := Lib.hid hg2
            clear hg2
            have hfit : t' ≤ 64 := Nat.le_trans (Nat.le_add_right _ _) HS.out.2.fit
            rcases Nat.eq_zero_or_pos e with he0 | he0
            · subst he0
              obtain rfl : h' = 0 := HS.out.1
              have hfin := HQ.out
              rw [HF.out t' z' HS.out.2] at hfin
              have HFIN := Lib.hid hfin
              clear hfin
              go_wp2_with fail
              have := HFIN.out
              rw [show nv (some (64 * k + t')) = Value.tuple #[.int .i64 ((64 * k + t' : Nat) : Int), .bool true] from rfl, show ((64 * k + t' : Nat) : Int) = (k : Int) * 64 + t' by omega] at this
              exact this
            · obtain ⟨e', rfl⟩ : ∃ e', e = e' + 1 := ⟨e - 1, by omega⟩
              have hh : h' = 2 ^ e' ∧ Srch N t' z' (2 * h') := by
                obtain ⟨g1, g2⟩ := HS.out
                have g3 : h' = 2 ^ e' := by rw [g1, Nat.pow_succ, Nat.mul_div_cancel _ (by omega)]
                refine ⟨g3, ?_⟩
                rw [g3, Nat.mul_comm, ← Nat.pow_succ]
                exact g2
              have hh32 : h' ≤ 32 := by rw [hh.1]; exact Nat.le_trans (Nat.pow_le_pow_right (by omega) (show e' ≤ 5 by omega)) (by decide)
              have hh0 : 0 < h' := by rw [hh.1]; exact Nat.two_pow_pos _
              have hnext : 2 ^ e' / 2 = h' / 2 := by rw [hh.1]
              have hm2 := Lib.hid (hm.out wr h' (by omega))
              have hml := msk_lt (k := h') (by omega)
              have hzl := hh.2.lt
              have ha := and64 hzl hml
              have hsr := shr64 z' h'
              have HU := Lib.hid (fun h => hh.2.up (h := h') h)
              have HD := Lib.hid (fun h => hh.2.down (h := h') h)
              have HN2 := Lib.hid hnext
              have HH1 := Lib.hid hh.1
              generalize 2 ^ h' - 1 = m at *
              generalize z' &&& m = zz at *
              generalize z' >>> h' = z2 at *
              clear hml hzl hh HS hnext
              by_cases hz0 : zz = 0
              · have HZ0 := Lib.hid hz0
                have hb1 : ((zz : Int) == 0) = true := by rw [beq_iff_eq]; omega
                clear hz0
                go_wp2_with fail
                refine hm2.out _ ?_
                go_wp2_with fail
                go_roundg (h' / 2)
                case measure => have := HG2.out; omega
                case rel => exact ⟨z2, t' + h', h' / 2, e', rfl, rfl, by go_num, by go_num, rfl, by omega, Lib.hid ⟨by rw [HN2.out], by rw [← HH1.out]; exact HU.out HZ0.out⟩⟩
              · have HZ0 := Lib.hid hz0
                have hb1 : ((zz : Int) == 0) = false := by rw [beq_eq_false_iff_ne]; omega
                clear hz0
                go_wp2_with fail
                refine hm2.out _ ?_
                go_wp2_with fail
                go_roundg (h' / 2)
                case measure => have := HG2.out; omega
                case rel => exact ⟨z', t', h' / 2, e', rfl, rfl, rfl, by go_num, rfl, by omega, Lib.hid ⟨by rw [HN2.out], by rw [← HH1.out]; exact HD.out HZ0.out⟩⟩
      · have HK := Lib.hid hk
        clear hk
        by_cases hN0 : x = 0
        · have HN0 := Lib.hid hN0
          have hb0 : ((x : Int) == 0) = true := by rw [beq_iff_eq]; omega
          clear hN0
          go_wp2_with fail
          go_roundg (n - (k + 1))
          case measure => have := HG.out; omega
          case rel => exact ⟨k + 1, by have := HK.out; omega, rfl, by go_num, rfl, HZ.out HN0.out⟩
        · have hst := Lib.hid (Srch.start hN0 HWL.out)
          have hb0 : ((x : Int) == 0) = false := by rw [beq_eq_false_iff_ne]; omega
          clear hN0
          go_wp2_with fail
          go_loopg [7, 8, 9] 32 (fun g xx t h wi => ∃ (z' t' h' e : Nat), g = h' ∧ xx = .int .u64 (z' : Int) ∧ t = .int .i64 (t' : Int) ∧ h = .int .i64 (h' : Int) ∧ wi = wr ∧ e ≤ 6 ∧ Hid (h' = 2 ^ e / 2 ∧ Srch x t' z' (2 ^ e)))
          case atStart => exact ⟨x, 0, 32, 6, rfl, rfl, rfl, rfl, rfl, by omega, Lib.hid ⟨rfl, hst.out⟩⟩
          case round =>
            obtain ⟨z', t', h', e, hg2, rfl, rfl, rfl, rfl, he6, HS⟩ := hrel
            have HG2 := Lib.hid hg2
            clear hg2
            have hfit : t' ≤ 64 := Nat.le_trans (Nat.le_add_right _ _) HS.out.2.fit
            rcases Nat.eq_zero_or_pos e with he0 | he0
            · subst he0
              obtain rfl : h' = 0 := HS.out.1
              have hfin := HQ.out
              rw [HF.out t' z' HS.out.2] at hfin
              have HFIN := Lib.hid hfin
              clear hfin
              go_wp2_with fail
              have := HFIN.out
              rw [show nv (some (64 * k + t')) = Value.tuple #[.int .i64 ((64 * k + t' : Nat) : Int), .bool true] from rfl, show ((64 * k + t' : Nat) : Int) = (k : Int) * 64 + t' by omega] at this
              exact this
            · obtain ⟨e', rfl⟩ : ∃ e', e = e' + 1 := ⟨e - 1, by omega⟩
              have hh : h' = 2 ^ e' ∧ Srch x t' z' (2 * h') := by
                obtain ⟨g1, g2⟩ := HS.out
                have g3 : h' = 2 ^ e' := by rw [g1, Nat.pow_succ, Nat.mul_div_cancel _ (by omega)]
                refine ⟨g3, ?_⟩
                rw [g3, Nat.mul_comm, ← Nat.pow_succ]
                exact g2
              have hh32 : h' ≤ 32 := by rw [hh.1]; exact Nat.le_trans (Nat.pow_le_pow_right (by omega) (show e' ≤ 5 by omega)) (by decide)
              have hh0 : 0 < h' := by rw [hh.1]; exact Nat.two_pow_pos _
              have hnext : 2 ^ e' / 2 = h' / 2 := by rw [hh.1]
              have hm2 := Lib.hid (hm.out wr h' (by omega))
              have hml := msk_lt (k := h') (by omega)
              have hzl := hh.2.lt
              have ha := and64 hzl hml
              have hsr := shr64 z' h'
              have HU := Lib.hid (fun h => hh.2.up (h := h') h)
              have HD := Lib.hid (fun h => hh.2.down (h := h') h)
              have HN2 := Lib.hid hnext
              have HH1 := Lib.hid hh.1
              generalize 2 ^ h' - 1 = m at *
              generalize z' &&& m = zz at *
              generalize z' >>> h' = z2 at *
              clear hml hzl hh HS hnext
              by_cases hz0 : zz = 0
              · have HZ0 := Lib.hid hz0
                have hb1 : ((zz : Int) == 0) = true := by rw [beq_iff_eq]; omega
                clear hz0
                go_wp2_with fail
                refine hm2.out _ ?_
                go_wp2_with fail
                go_roundg (h' / 2)
                case measure => have := HG2.out; omega
                case rel => exact ⟨z2, t' + h', h' / 2, e', rfl, rfl, by go_num, by go_num, rfl, by omega, Lib.hid ⟨by rw [HN2.out], by rw [← HH1.out]; exact HU.out HZ0.out⟩⟩
              · have HZ0 := Lib.hid hz0
                have hb1 : ((zz : Int) == 0) = false := by rw [beq_eq_false_iff_ne]; omega
                clear hz0
                go_wp2_with fail
                refine hm2.out _ ?_
                go_wp2_with fail
                go_roundg (h' / 2)
                case measure => have := HG2.out; omega
                case rel => exact ⟨z', t', h' / 2, e', rfl, rfl, rfl, by go_num, rfl, by omega, Lib.hid ⟨by rw [HN2.out], by rw [← HH1.out]; exact HD.out HZ0.out⟩⟩
    · have hfin := HQ.out
      rw [nextB_none.2 fun q h1 h2 => HP.out q h1 (by rw [HL.out] at h2; omega)] at hfin
      have HF := Lib.hid hfin
      clear hfin
      go_wp2_with fail
      exact HF.out
end Go.Proofs.Ytfieaijehkfepaa
