/-
  The document's Set; lists of words, compared.
-/
import Derived.Test.YtfieaijehkfepaaBtB
import Derived.Deep.RegionWith
import Derived.IntWalk
namespace Go.Proofs.Ytfieaijehkfepaa
open Go.RowKit Go.Maps

theorem setF_step {ws : List Nat} {a i v : Nat} (h : a + i + 1 ≤ 64 * ws.length) : setBit (setF ws a i v) (a + i) (v.testBit i) = setF ws a (i + 1) v := by
  refine eq_setF (by omega) (by rw [setBit_length, setF_length]) (setBit_bnd (setF_bnd _ _ _ _) _ _) fun p hp => ?_
  rw [bitAt_setBit (setF_bnd _ _ _ _) (by rw [setF_length]; omega), bitAt_setF _ _ _ _ _ (by omega)]
  by_cases h1 : p = a + i
  · subst h1
    rw [if_pos rfl, if_pos (by omega), Nat.add_sub_cancel_left]
  · rw [if_neg h1]
    by_cases h2 : a ≤ p ∧ p < a + i
    · rw [if_pos h2, if_pos (by omega)]
    · rw [if_neg h2, if_neg (by omega)]

/-- Words of its own, from a bound on. -/
def OwnW (w : World) (m : Nat) (A : Option Addr) (n : Nat) (ws : List Nat) : Prop := IsWords w A n ws ∧ (0 < n → ∃ g, A = some ⟨g, 0, none⟩ ∧ m ≤ g ∧ RowIs w g 24 n (uvals ws))

theorem rset_no {w : World} {A : Option Addr} {a k : Int} {n c v : Nat} (hn : n ≤ 100000) (h : thB n a k = false) (Q : Ending → World → Prop) (hQ : Q (.returned (.tuple #[.slice none 0 0, .bool false])) w) :
    Calls Try.prog 14 #[.slice A n c, .int .i64 a, .int .i64 k, .int .u64 v] w Q := by
  have HQ := Lib.hid hQ
  have hc := Lib.hid (rthere_any (w := w) (A := A) (a := a) (k := k) (c := c) hn)
  clear hQ
  go_enter Try.func14, Try.ntmps14
  go_wp2_with fail
  refine hc.out _ ?_
  rw [h]
  go_wp2_with fail
  exact HQ.out

set_option maxHeartbeats 800000 in
theorem rset_yes {w : World} {A : Option Addr} {a k n c v : Nat} {ws : List Nat} (hx : IsWords w A n ws) (hb : Bnd ws) (hv : v < 2 ^ 64) (hn : n ≤ 100000) (h1 : k ≤ 64) (h2 : a + k ≤ 64 * n) (Q : Ending → World → Prop)
    (hQ : ∀ w' A' c', IsWords w' A' n (setF ws a k v) → Below w.heap.size w w' → Q (.returned (.tuple #[.slice A' n c', .bool true])) w') :
    Calls Try.prog 14 #[.slice A n c, .int .i64 a, .int .i64 k, .int .u64 v] w Q := by
  have hc := Lib.hid (rthere_any (w := w) (A := A) (a := (a : Int)) (k := (k : Int)) (c := c) hn)
  have ht : thB n (a : Int) (k : Int) = true := by simp [thB]; omega
  have HT := Lib.hid ht
  have HQ := Lib.hid hQ
  have HB := Lib.hid hb
  have HV := Lib.hid hv
  have hlen := hx.len
  have HL := Lib.hid hlen
  have HX := Lib.hid hx
  clear ht hQ hb hx hlen hv
  go_enter Try.func14, Try.ntmps14
  go_wp2_with fail
  refine hc.out _ ?_
  rw [HT.out]
  go_wp2_with (first
      | (at_builtin; refine wpList_app rfl (.tmp 18) (.tmp 19) 22 rfl w.heap.size 24 Try.underlying22 infoWord rfl (.slice (some ⟨w.heap.size, 0, none⟩) 0 0) 0 [] rfl (own_empty w _ 24 (Nat.le_refl _)) A n c (uvals ws) rfl (HX.out.alloc _) (uvals_cell _) (by unfold maxLen; omega) (by omega) (by simp) ?_; intro A1 c1 w1 ho1 hg1; rw [Nat.zero_add, List.nil_append] at ho1; have hb1 := Lib.hid (own_grown ((Below.refl _ w).alloc (Nat.le_refl _) _) (own_empty w _ 24 (Nat.le_refl _)) hg1 (by simp)); have HO1 := Lib.hid ho1; clear ho1 hg1))
  have HOW : Hid (OwnW w1 w.heap.size A1 n ws) := Lib.hid (by
    refine ⟨?_, fun h0 => ?_⟩
    · obtain ⟨_, _, e, hv1, _⟩ := vals_of_own HO1.out
      obtain ⟨rfl, rfl⟩ : A1 = _ ∧ c1 = _ := by simpa using e
      exact hv1
    · obtain ⟨g, rfl, hg, hrow⟩ := rowIs_of_own HO1.out h0
      exact ⟨g, rfl, hg, hrow⟩)
  clear HO1
  go_loopg [11] k (fun g i wr => ∃ j : Nat, j ≤ k ∧ g + j = k ∧ i = .int .i64 (j : Int) ∧ OwnW wr w.heap.size A1 n (setF ws a j v) ∧ Below w.heap.size w wr)
  case atStart => exact ⟨0, Nat.zero_le _, rfl, rfl, by rw [setF_zero (by rw [HL.out]; omega) HB.out]; exact HOW.out, hb1.out⟩
  case round =>
    obtain ⟨j, hj, hg, rfl, how, hbel⟩ := hrel
    have HG := Lib.hid hg
    have HW := Lib.hid how
    have HBL := Lib.hid hbel
    clear hg how hbel HOW hb1
    by_cases he : j = k
    · subst he
      go_wp2_with fail
      exact HQ.out _ _ _ HW.out.1 HBL.out
    · have hjk : j < k := by omega
      obtain ⟨g', rfl, hg', hrow⟩ := HW.out.2 (by omega)
      have hpl : a + j < 64 * n := by omega
      have hq : (a + j) / 64 < n := by omega
      have gf : wr.frozen? ⟨g', (a + j) / 64, none⟩ = false := hrow.hasBlk.frozen _
      have gx : wr.cell? ⟨g', (a + j) / 64, none⟩ = some (.int .u64 ((setF ws a j v).getD ((a + j) / 64) 0 : Nat)) := hrow.cell (by
        have := HL.out
        rw [uvals, List.getElem?_map, List.getD_eq_getElem?_getD, List.getElem?_eq_getElem (by rw [setF_length]; omega)]
        rfl)
      have hxb := (setF_bnd ws a j v).getD ((a + j) / 64)
      have hstep : setBit (setF ws a j v) (a + j) (v.testBit j) = setF ws a (j + 1) v := setF_step (by rw [HL.out]; omega)
      unfold setBit at hstep
      have hone : 2 ^ ((a + j) % 64) < 2 ^ 64 := pow_lt64
      have hsh := shl64 1 ((a + j) % 64)
      rw [Nat.one_shiftLeft, Nat.mod_eq_of_lt hone] at hsh
      simp only [Int.natCast_one, Int.one_mul] at hsh
      have hand := andn64 hxb hone
      have hor := or64 (andn_lt (b := 2 ^ ((a + j) % 64)) hxb) hone
      have hsr := shr64 v j
      have hy := shr_lt (s := j) HV.out
      have hbt : (v >>> j) &&& 1 = if v.testBit j then 1 else 0 := and_one
      generalize v >>> j = y at *
      have hya : bits .and .u64 (y : Int) 1 = _ := and64 (b := 1) hy (by decide)
      have HS := Lib.hid hstep
      have HR := Lib.hid hrow
      generalize setF ws a j v = xs at *
      generalize xs.getD ((a + j) / 64) 0 = x at *
      have ep : (a : Int) + (j : Int) = ((a + j : Nat) : Int) := by omega
      generalize a + j = p at *
      generalize 2 ^ (p % 64) = one at *
      generalize andn x one = x1 at *
      generalize x1 ||| one = x2 at *
      have hi0 : (0 : Int) ≤ (p : Int) / 64 := by omega
      have hi1 : (p : Int) / 64 < (n : Int) := by omega
      have hi2 : ((p : Int) / 64).toNat = p / 64 := by omega
      clear hstep hrow hxb hone hy HT HX HW hc
      cases htb : v.testBit j with
      | false =>
        rw [htb] at hbt
        rw [show y &&& 1 = 0 from hbt] at hya
        have HS2 : Hid (xs.set (p / 64) x1 = setF ws a (j + 1) v) := Lib.hid (by have := HS.out; rw [htb] at this; exact this)
        clear hbt htb HS
        go_wp2_with fail
        go_roundg (k - (j + 1))
        case measure => have := HG.out; omega
        case rel =>
          have hr2 := HR.out.set_ (p / 64) (.int .u64 (x1 : Int))
          rw [uvals_set, HS2.out] at hr2
          exact ⟨j + 1, by omega, by omega, by go_num, ⟨hr2.vals, fun _ => ⟨g', rfl, hg', hr2⟩⟩, (HBL.out.setCell (p := ⟨g', p / 64, none⟩) hg' _)⟩
      | true =>
        rw [htb] at hbt
        rw [show y &&& 1 = 1 from hbt] at hya
        have HS2 : Hid (xs.set (p / 64) x2 = setF ws a (j + 1) v) := Lib.hid (by have := HS.out; rw [htb] at this; exact this)
        clear hbt htb HS
        go_wp2_with fail
        go_roundg (k - (j + 1))
        case measure => have := HG.out; omega
        case rel =>
          have hr2 := (HR.out.set_ (p / 64) (.int .u64 (x1 : Int))).set_ (p / 64) (.int .u64 (x2 : Int))
          rw [uvals_set, uvals_set, List.set_set, HS2.out] at hr2
          exact ⟨j + 1, by omega, by omega, by go_num, ⟨hr2.vals, fun _ => ⟨g', rfl, hg', hr2⟩⟩, ((HBL.out.setCell (p := ⟨g', p / 64, none⟩) hg' _).setCell (p := ⟨g', p / 64, none⟩) hg' _)⟩

/-! ### Same -/

theorem uvals_inj {xs ys : List Nat} (h : uvals xs = uvals ys) : xs = ys := by
  induction xs generalizing ys with
  | nil => cases ys with | nil => rfl | cons _ _ => simp [uvals] at h
  | cons x xs ih =>
    cases ys with
    | nil => simp [uvals] at h
    | cons y ys =>
      simp only [uvals, List.map_cons, List.cons.injEq, Value.int.injEq, true_and] at h
      have h1 : x = y := by have := h.1; omega
      subst h1
      rw [ih h.2]

theorem same_any {w : World} {A B : Option Addr} {m n c d : Nat} {xs ys : List Nat} (hx : IsWords w A m xs) (hy : IsWords w B n ys) (hm : m ≤ 100000) (hn : n ≤ 100000)
    (Q : Ending → World → Prop) (hQ : ∀ q, Q (.returned (.bool (decide (xs = ys)))) (w.drewN q)) :
    Calls Try.prog 15 #[.slice A m c, .slice B n d] w Q := by
  have HQ := Lib.hid hQ
  have HX := Lib.hid hx
  have HY := Lib.hid hy
  clear hQ hx hy
  by_cases hmn : m = n
  · subst hmn
    go_enter Try.func15, Try.ntmps15
    go_wp2_with fail
    go_loopg [5] m (fun g i wr => ∃ j q : Nat, j ≤ m ∧ g + j = m ∧ i = .int .i64 (j : Int) ∧ wr = w.drewN q ∧ xs.take j = ys.take j)
    case atStart => exact ⟨0, 0, Nat.zero_le _, rfl, rfl, rfl, by simp⟩
    case round =>
      obtain ⟨j, q, hj, hg, rfl, rfl, ht⟩ := hrel
      have HG := Lib.hid hg
      have HTK := Lib.hid ht
      clear hg ht
      by_cases he : j = m
      · subst he
        go_wp2_with fail
        have hf := HQ.out q
        have ht := HTK.out
        rw [List.take_of_length_le (Nat.le_of_eq HX.out.len), List.take_of_length_le (Nat.le_of_eq HY.out.len)] at ht
        simp only [ht, decide_true] at hf
        exact hf
      · have hjm : j < m := by omega
        obtain ⟨b1, o1, rfl, _, c1⟩ := HX.out.at_ hjm
        obtain ⟨b2, o2, rfl, _, c2⟩ := HY.out.at_ hjm
        have lx := Lib.hid HX.out.len
        have ly := Lib.hid HY.out.len
        by_cases hxy : xs.getD j 0 = ys.getD j 0
        · have HE := Lib.hid hxy
          have htk : Hid (xs.take (j + 1) = ys.take (j + 1)) := Lib.hid (by
            have h1 := lx.out
            have h2 := ly.out
            have h3 := HE.out
            rw [List.getD_eq_getElem?_getD, List.getD_eq_getElem?_getD, List.getElem?_eq_getElem (by omega), List.getElem?_eq_getElem (by omega)] at h3
            rw [List.take_succ_eq_append_getElem (by omega), List.take_succ_eq_append_getElem (by omega), HTK.out]
            exact congrArg _ (congrArg (fun z => [z]) h3))
          rw [← hxy] at c2
          clear hxy
          generalize xs.getD j 0 = x at *
          go_wp2_with fail
          go_region
          all_goals
            go_wp2_with fail
            go_roundg (m - (j + 1))
            case measure => have := HG.out; omega
            case rel => exact ⟨j + 1, q + 1, by omega, by omega, by go_num, rfl, htk.out⟩
        · have hne : xs ≠ ys := fun e => hxy (by rw [e])
          have HQ' := HQ.out
          simp only [hne, decide_false] at HQ'
          have HF := Lib.hid HQ'
          generalize xs.getD j 0 = x at *
          generalize ys.getD j 0 = y at *
          have hb : ((x : Int) == (y : Int)) = false := by rw [beq_eq_false_iff_ne]; omega
          clear HQ' hne hxy
          go_wp2_with fail
          go_region
          all_goals
            go_wp2_with fail
            exact HF.out (q + 1)
  · have hne : xs ≠ ys := fun e => hmn (by rw [← HX.out.len, ← HY.out.len, e])
    have HQ' := HQ.out
    simp only [hne, decide_false] at HQ'
    have HF := Lib.hid HQ'
    have hb : ((m : Int) == (n : Int)) = false := by rw [beq_eq_false_iff_ne]; omega
    clear HQ' hne
    go_enter Try.func15, Try.ntmps15
    go_wp2_with fail
    exact HF.out 0
end Go.Proofs.Ytfieaijehkfepaa
