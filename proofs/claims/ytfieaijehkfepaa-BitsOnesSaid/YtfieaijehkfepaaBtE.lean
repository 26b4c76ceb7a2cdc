/-
  Next and Count, walked.
-/
import Derived.Test.YtfieaijehkfepaaBtC
import Derived.Test.YtfieaijehkfepaaBtD
namespace Go.Proofs.Ytfieaijehkfepaa
open Go.RowKit Go.Maps

def nv : Option Nat → Value
  | some p => .tuple #[.int .i64 (p : Int), .bool true]
  | none => .tuple #[.int .i64 0, .bool false]

theorem rnext_any {w : World} {A : Option Addr} {n c : Nat} {ws : List Nat} (hx : IsWords w A n ws) (hb : Bnd ws) (hn : n ≤ 100000) (f : Int) (a : Nat) (hfa : f.toNat = a) (Q : Ending → World → Prop)
    (hQ : Q (.returned (nv (nextB ws a))) w) :
    Calls Try.prog 17 #[.slice A n c, .int .i64 f] w Q := by
  have HQ := Lib.hid hQ
  have hlen := hx.len
  have HL := Lib.hid hlen
  have hbit := Lib.hid (fun i => bit_any (c := c) hx hb hn (i := i))
  clear hQ hx hb hlen
  have hfc : f < 0 ∧ a = 0 ∨ f = (a : Int) := by omega
  clear hfa
  rcases hfc with ⟨hf, hf0⟩ | rfl
  all_goals
    go_enter Try.func17, Try.ntmps17
    go_wp2_with fail
    go_loopg [6] (64 * n - a) (fun g i wr => ∃ j : Nat, a ≤ j ∧ g = 64 * n - j ∧ i = .int .i64 (j : Int) ∧ wr = w ∧ ∀ q, a ≤ q → q < j → bitAt ws q = false)
    case atStart => exact ⟨a, Nat.le_refl _, rfl, by first | rfl | (rw [hf0]; rfl), rfl, fun q _ _ => by omega⟩
    case round =>
      obtain ⟨j, hj, hg, rfl, rfl, hq⟩ := hrel
      have HG := Lib.hid hg
      have HP := Lib.hid hq
      clear hg hq
      by_cases hlt : j < 64 * n
      · have e : bitN ws j = if bitAt ws j then 1 else 0 := rfl
        have hb := Lib.hid (hbit.out j)
        cases hbj : bitAt ws j with
        | true =>
          rw [hbj] at e
          rw [e] at hb
          have hfin := HQ.out
          rw [nextB_some.2 ⟨hj, by rw [HL.out]; exact hlt, hbj, HP.out⟩] at hfin
          have HF := Lib.hid hfin
          clear hfin e hbj
          go_wp2_with fail
          refine hb.out _ (by omega) (by omega) _ ?_
          go_wp2_with fail
          exact HF.out
        | false =>
          rw [hbj] at e
          rw [e] at hb
          have HB := Lib.hid hbj
          clear e hbj
          go_wp2_with fail
          refine hb.out _ (by omega) (by omega) _ ?_
          go_wp2_with fail
          go_roundg (64 * n - (j + 1))
          case measure => have := HG.out; omega
          case rel => exact ⟨j + 1, by omega, rfl, by go_num, rfl, fun q h1 h2 => by
            by_cases h : q = j
            · rw [h]; exact HB.out
            · exact HP.out q h1 (by omega)⟩
      · have hfin := HQ.out
        rw [nextB_none.2 fun q h1 h2 => HP.out q h1 (by rw [HL.out] at h2; omega)] at hfin
        have HF := Lib.hid hfin
        clear hfin
        go_wp2_with fail
        exact HF.out

theorem rcount_any {w : World} {A : Option Addr} {n c : Nat} {ws : List Nat} (hx : IsWords w A n ws) (hb : Bnd ws) (hn : n ≤ 100000) (Q : Ending → World → Prop)
    (hQ : Q (.returned (.int .i64 (cntB ws : Nat))) w) :
    Calls Try.prog 19 #[.slice A n c] w Q := by
  have HQ := Lib.hid hQ
  have hlen := hx.len
  have HL := Lib.hid hlen
  have hbit := Lib.hid (fun i => bit_any (c := c) hx hb hn (i := i))
  clear hQ hx hb hlen
  go_enter Try.func19, Try.ntmps19
  go_wp2_with fail
  go_loopg [3, 4] (64 * n) (fun g s i wr => ∃ j : Nat, j ≤ 64 * n ∧ g = 64 * n - j ∧ i = .int .i64 (j : Int) ∧ wr = w ∧ s = .int .i64 (cntTo (bitAt ws) j : Nat))
  case atStart => exact ⟨0, Nat.zero_le _, rfl, rfl, rfl, rfl⟩
  case round =>
    obtain ⟨j, hj, hg, rfl, rfl, rfl⟩ := hrel
    have HG := Lib.hid hg
    clear hg
    by_cases hlt : j < 64 * n
    · have e : cntTo (bitAt ws) (j + 1) = cntTo (bitAt ws) j + bitN ws j := rfl
      have hle := cntTo_le (bitAt ws) j
      have hbn := bitN_le ws j
      have hb := Lib.hid (hbit.out j)
      have HE := Lib.hid e
      clear e
      generalize cntTo (bitAt ws) j = s at *
      generalize bitN ws j = y at *
      go_wp2_with fail
      refine hb.out _ (by omega) (by omega) _ ?_
      go_wp2_with fail
      go_roundg (64 * n - (j + 1))
      case measure => have := HG.out; omega
      case rel => exact ⟨j + 1, by omega, rfl, by go_num, rfl, by rw [HE.out]; go_num⟩
    · have he : j = 64 * n := by omega
      subst he
      have hfin := HQ.out
      unfold cntB at hfin
      rw [HL.out] at hfin
      have HF := Lib.hid hfin
      clear hfin
      generalize cntTo (bitAt ws) (64 * n) = s at *
      go_wp2_with fail
      exact HF.out

set_option maxHeartbeats 400000 in
theorem count_any {w : World} {A : Option Addr} {n c : Nat} {ws : List Nat} (hx : IsWords w A n ws) (hb : Bnd ws) (hn : n ≤ 100000) (Q : Ending → World → Prop)
    (hQ : Q (.returned (.int .i64 (cntB ws : Nat))) w) :
    Calls Try.prog 18 #[.slice A n c] w Q := by
  have HQ := Lib.hid hQ
  have hlen := hx.len
  have HL := Lib.hid hlen
  have HX := Lib.hid hx
  have HB := Lib.hid hb
  clear hQ hx hb hlen
  go_enter Try.func18, Try.ntmps18
  go_wp2_with fail
  go_loopg [3, 8] n (fun g s i wr => ∃ j : Nat, j ≤ n ∧ g = n - j ∧ i = .int .i64 (j : Int) ∧ wr = w ∧ s = .int .i64 (cntTo (bitAt ws) (64 * j) : Nat))
  case atStart => exact ⟨0, Nat.zero_le _, rfl, rfl, rfl, rfl⟩
  case round =>
    obtain ⟨j, hj, hg, rfl, rfl, rfl⟩ := hrel
    have HG := Lib.hid hg
    clear hg
    by_cases hlt : j < n
    · obtain ⟨b, o, rfl, _, c0⟩ := HX.out.at_ hlt
      have hxb := HB.out.getD j
      have e := Lib.hid (cnt_word (ws := ws) j)
      have hle := Lib.hid (cntTo_le (bitAt ws) (64 * (j + 1)))
      generalize ws.getD j 0 = x at *
      have HXB := Lib.hid hxb
      clear hxb
      go_wp2_with fail
      go_loopg [5, 3] (popW x) (fun g y s wi => ∃ z m : Nat, g = popW z ∧ y = .int .u64 (z : Int) ∧ s = .int .i64 (m : Int) ∧ z < 2 ^ 64 ∧ wi = wr ∧ Hid (m + popW z = cntTo (bitAt ws) (64 * (j + 1))))
      case atStart => exact ⟨x, _, rfl, rfl, rfl, HXB.out, rfl, Lib.hid e.out.symm⟩
      case round =>
        obtain ⟨z, m, hg2, rfl, rfl, hz, rfl, hm⟩ := hrel
        have HG2 := Lib.hid hg2
        clear hg2
        have hmle : m ≤ 6400000 := by have := hm.out; have := hle.out; omega
        by_cases h0 : z = 0
        · subst h0
          have hm0 : Hid (m = cntTo (bitAt ws) (64 * (j + 1))) := Lib.hid (by have := hm.out; rw [popW_zero] at this; omega)
          clear hm
          go_wp2_with fail
          go_roundg (n - (j + 1))
          case measure => have := HG.out; omega
          case rel => exact ⟨j + 1, by omega, rfl, by go_num, rfl, by rw [← hm0.out]⟩
        · have hd := popW_drop h0 hz
          have hw : IntKind.u64.wrap ((z : Int) - 1) = ((z - 1 : Nat) : Int) := by rw [IntKind.wrap_u64]; omega
          have ha := and64 (a := z) (b := z - 1) hz (by omega)
          have hz2 : z &&& (z - 1) < 2 ^ 64 := Nat.lt_of_le_of_lt Nat.and_le_left hz
          have hb0 : ((z : Int) == 0) = false := by rw [beq_eq_false_iff_ne]; omega
          generalize z &&& (z - 1) = z2 at *
          generalize z - 1 = z1 at *
          have HD := Lib.hid hd
          clear hd
          go_wp2_with fail
          go_roundg (popW z2)
          case measure => have := HG2.out; have := HD.out; omega
          case rel => exact ⟨z2, m + 1, rfl, rfl, by go_num, hz2, rfl, Lib.hid (by have := hm.out; have := HD.out; omega)⟩
    · have he : j = n := by omega
      subst he
      have hfin := HQ.out
      unfold cntB at hfin
      rw [HL.out] at hfin
      have HF := Lib.hid hfin
      clear hfin
      generalize cntTo (bitAt ws) (64 * j) = s at *
      go_wp2_with fail
      exact HF.out
end Go.Proofs.Ytfieaijehkfepaa
