/-
  The document's bit, Get and Set; Set and Clone; lists of words, compared.
-/
import Derived.Test.YtfieaijehkfepaaBtA
import Derived.Deep.RegionWith
import Derived.IntWalk
namespace Go.Proofs.Ytfieaijehkfepaa
open Go.RowKit Go.Maps

def bitN (ws : List Nat) (i : Nat) : Nat := if bitAt ws i then 1 else 0

theorem and_one {x s : Nat} : (x >>> s) &&& 1 = if x.testBit s then 1 else 0 := by
  rw [Nat.and_one_is_mod, Nat.shiftRight_eq_div_pow, Nat.testBit_eq_decide_div_mod_eq]
  by_cases h : x / 2 ^ s % 2 = 1
  · rw [h]; simp
  · have : x / 2 ^ s % 2 = 0 := by omega
    rw [this]; simp

theorem shr_lt {x s : Nat} (hx : x < 2 ^ 64) : x >>> s < 2 ^ 64 := by
  rw [Nat.shiftRight_eq_div_pow]; exact Nat.lt_of_le_of_lt (Nat.div_le_self _ _) hx

theorem bit_any {w : World} {A : Option Addr} {i n c : Nat} {ws : List Nat} (hx : IsWords w A n ws) (hb : Bnd ws) (hn : n ≤ 100000) (ii : Int) (hii : ii = (i : Int)) (hi : i < 64 * n) (Q : Ending → World → Prop) (hQ : Q (.returned (.int .u64 (bitN ws i : Nat))) w) :
    Calls Try.prog 27 #[.slice A n c, .int .i64 ii] w Q := by
  subst hii
  obtain ⟨b, o, rfl, _, c0⟩ := hx.at_ (k := i / 64) (by omega)
  have hlt : i / 64 < n := by omega
  have hxb := hb.getD (i / 64)
  have e : bitN ws i = if (ws.getD (i / 64) 0).testBit (i % 64) then 1 else 0 := rfl
  rw [← and_one] at e
  rw [e] at hQ
  generalize ws.getD (i / 64) 0 = x at *
  have hs := shr64 x (i % 64)
  have hy := shr_lt (s := i % 64) hxb
  generalize x >>> (i % 64) = y at *
  have ha : bits .and .u64 (y : Int) 1 = _ := and64 (b := 1) hy (by decide)
  generalize y &&& 1 = z at *
  have HQ := Lib.hid hQ
  clear hQ hx hb hxb e hy
  go_enter Try.func27, Try.ntmps27
  go_wp2
  exact HQ.out

theorem bitN_le (ws : List Nat) (i : Nat) : bitN ws i ≤ 1 := by unfold bitN; split <;> omega

theorem rget_no {w : World} {A : Option Addr} {a k : Int} {n c : Nat} (hn : n ≤ 100000) (h : thB n a k = false) (Q : Ending → World → Prop) (hQ : Q (.returned (.tuple #[.int .u64 0, .bool false])) w) :
    Calls Try.prog 12 #[.slice A n c, .int .i64 a, .int .i64 k] w Q := by
  have HQ := Lib.hid hQ
  have hc := Lib.hid (rthere_any (w := w) (A := A) (a := a) (k := k) (c := c) hn)
  clear hQ
  go_enter Try.func12, Try.ntmps12
  go_wp2_with fail
  refine hc.out _ ?_
  rw [h]
  go_wp2_with fail
  exact HQ.out

set_option maxHeartbeats 400000 in
theorem rget_yes {w : World} {A : Option Addr} {a k n c : Nat} {ws : List Nat} (hx : IsWords w A n ws) (hb : Bnd ws) (hn : n ≤ 100000) (h1 : k ≤ 64) (h2 : a + k ≤ 64 * n) (Q : Ending → World → Prop)
    (hQ : Q (.returned (.tuple #[.int .u64 (getF ws a k : Nat), .bool true])) w) :
    Calls Try.prog 12 #[.slice A n c, .int .i64 a, .int .i64 k] w Q := by
  have hc := Lib.hid (rthere_any (w := w) (A := A) (a := (a : Int)) (k := (k : Int)) (c := c) hn)
  have ht : thB n (a : Int) (k : Int) = true := by simp [thB]; omega
  have HT := Lib.hid ht
  have HQ := Lib.hid hQ
  have HB := Lib.hid hb
  have HX := Lib.hid hx
  clear ht hQ hb hx
  go_enter Try.func12, Try.ntmps12
  go_wp2_with fail
  refine hc.out _ ?_
  rw [HT.out]
  go_wp2_with fail
  go_loopg [8, 9] k (fun g v i wr => ∃ j : Nat, j ≤ k ∧ g = j ∧ i = .int .i64 ((j : Int) - 1) ∧ wr = w ∧ v = .int .u64 (getF ws (a + j) (k - j) : Nat))
  case atStart => exact ⟨k, Nat.le_refl _, rfl, rfl, rfl, by simp [getF, ofB]⟩
  case round =>
    obtain ⟨j, hj, hg, rfl, rfl, rfl⟩ := hrel
    have HG := Lib.hid hg
    clear hg
    rcases Nat.eq_zero_or_pos j with h0 | h0
    · subst h0
      have hfin := HQ.out
      rw [show getF ws a k = getF ws (a + 0) (k - 0) from rfl] at hfin
      have HF := Lib.hid hfin
      clear hfin
      generalize getF ws (a + 0) (k - 0) = r at *
      go_wp2_with fail
      exact HF.out
    · obtain ⟨m, rfl⟩ : ∃ m, j = m + 1 := ⟨j - 1, by omega⟩
      have hcons : getF ws (a + m) (k - m) = bitN ws (a + m) + 2 * getF ws (a + (m + 1)) (k - (m + 1)) := by
        rw [show k - m = (k - (m + 1)) + 1 by omega, getF_cons]
        rfl
      have hlt := getF_lt ws (a + (m + 1)) (k - (m + 1))
      have hlt63 : getF ws (a + (m + 1)) (k - (m + 1)) < 2 ^ 63 := Nat.lt_of_lt_of_le hlt (Nat.pow_le_pow_right (by omega) (by omega))
      have hbn := bitN_le ws (a + m)
      have hbit := Lib.hid (bit_any (c := c) HX.out HB.out hn (i := a + m))
      generalize bitN ws (a + m) = B at *
      generalize getF ws (a + (m + 1)) (k - (m + 1)) = N at *
      generalize hNN : getF ws (a + m) (k - m) = N' at *
      have e1 : ∃ M : Nat, IntKind.u64.wrap (2 * (N : Int)) = (M : Int) ∧ M = 2 * N := ⟨2 * N, by rw [IntKind.wrap_u64]; omega, rfl⟩
      obtain ⟨M, e1, hM⟩ := e1
      have e2 : IntKind.u64.wrap ((M : Int) + (B : Int)) = (N' : Int) := by rw [IntKind.wrap_u64]; omega
      have ei : (a : Int) + (((m + 1 : Nat) : Int) - 1) = ((a + m : Nat) : Int) := by omega
      have HN := Lib.hid hNN
      clear hcons hlt hlt63 hbn hM hNN
      go_wp2_with fail
      refine hbit.out _ (by omega) (by omega) _ ?_
      go_wp2_with fail
      go_roundg m
      case measure => have := HG.out; omega
      case rel => exact ⟨m, by omega, rfl, by go_num, rfl, by rw [HN.out]⟩

theorem uvals_set (ws : List Nat) (i x : Nat) : (uvals ws).set i (.int .u64 (x : Int)) = uvals (ws.set i x) := List.map_set.symm

/-! ### Clone, Set -/

theorem clone_any {w : World} {A : Option Addr} {n c : Nat} {ws : List Nat} (hx : IsWords w A n ws) (hn : n ≤ 100000) (Q : Ending → World → Prop)
    (hQ : ∀ w' A' c', w'.ownsRow w.heap.size 24 1 (.slice A' n c') n (uvals ws) → Below w.heap.size w w' → Q (.returned (.slice A' n c')) w') :
    Calls Try.prog 28 #[.slice A n c] w Q := by
  have HQ := Lib.hid hQ
  have HX := Lib.hid hx
  clear hQ hx
  have qT := Lib.run_eql_slice_nil w 22 24 A n c 0 0 Try.underlying22
  cases A with
  | none =>
    have hn0 : n = 0 := by
      rcases Nat.eq_zero_or_pos n with h | h
      · exact h
      · obtain ⟨b, o, e, _⟩ := HX.out.2 h
        cases e
    subst hn0
    have hw : uvals ws = [] := List.eq_nil_of_length_eq_zero HX.out.1
    have HW := Lib.hid hw
    clear hw
    simp only [Option.isNone_none] at qT
    go_enter Try.func28, Try.ntmps28
    go_wp2_with fail
    exact HQ.out w none 0 (by rw [HW.out]; exact World.ownsRow_nil _ _ _ _) (Below.refl _ _)
  | some ad =>
    simp only [Option.isNone_some] at qT
    go_enter Try.func28, Try.ntmps28
    go_wp2_with (first
      | (at_builtin; refine wpList_app rfl (.tmp 5) (.tmp 6) 22 rfl w.heap.size 24 Try.underlying22 infoWord rfl (.slice (some ⟨w.heap.size, 0, none⟩) 0 0) 0 [] rfl (own_empty w _ 24 (Nat.le_refl _)) (some ad) n c (uvals ws) rfl (HX.out.alloc _) (uvals_cell _) (by unfold maxLen; omega) (by omega) (by simp) ?_; intro A1 c1 w1 ho1 hg1; rw [Nat.zero_add, List.nil_append] at ho1; have hb1 := Lib.hid (own_grown ((Below.refl _ w).alloc (Nat.le_refl _) _) (own_empty w _ 24 (Nat.le_refl _)) hg1 (by simp)); have HO1 := Lib.hid ho1; clear ho1 hg1))
    exact HQ.out _ _ _ HO1.out hb1.out

theorem set_no {w : World} {A : Option Addr} {a k : Int} {n c v : Nat} (hn : n ≤ 100000) (h : thB n a k = false) (Q : Ending → World → Prop) (hQ : Q (.returned (.tuple #[.slice none 0 0, .bool false])) w) :
    Calls Try.prog 13 #[.slice A n c, .int .i64 a, .int .i64 k, .int .u64 v] w Q := by
  have HQ := Lib.hid hQ
  have hc := Lib.hid (there_any (w := w) (A := A) (a := a) (k := k) (c := c) hn)
  clear hQ
  go_enter Try.func13, Try.ntmps13
  go_wp2_with fail
  refine hc.out _ ?_
  rw [h]
  go_wp2_with fail
  exact HQ.out

set_option maxHeartbeats 800000 in
theorem set_yes {w : World} {A : Option Addr} {a k n c v : Nat} {ws : List Nat} (hx : IsWords w A n ws) (hb : Bnd ws) (hv : v < 2 ^ 64) (hn : n ≤ 100000) (h1 : k ≤ 64) (h2 : a + k ≤ 64 * n) (Q : Ending → World → Prop)
    (hQ : ∀ w' A' c', IsWords w' A' n (setF ws a k v) → Below w.heap.size w w' → Q (.returned (.tuple #[.slice A' n c', .bool true])) w') :
    Calls Try.prog 13 #[.slice A n c, .int .i64 a, .int .i64 k, .int .u64 v] w Q := by
  have hc := Lib.hid (there_any (w := w) (A := A) (a := (a : Int)) (k := (k : Int)) (c := c) hn)
  have ht : thB n (a : Int) (k : Int) = true := by simp [thB]; omega
  have HT := Lib.hid ht
  have HQ := Lib.hid hQ
  have HB := Lib.hid hb
  have hlen := hx.len
  have HL := Lib.hid hlen
  have hcl := Lib.hid (clone_any (c := c) hx hn)
  have HX := Lib.hid hx
  clear ht hQ hb hx hlen
  by_cases hk0 : k = 0
  · subst hk0
    go_enter Try.func13, Try.ntmps13
    go_wp2_with fail
    refine hc.out _ ?_
    rw [HT.out]
    go_wp2_with fail
    refine hcl.out _ fun w1 A1 c1 ho1 hb1 => ?_
    have HO := Lib.hid ho1
    have HB1 := Lib.hid hb1
    clear ho1 hb1
    go_wp2_with fail
    obtain ⟨_, _, e, hv1, _⟩ := vals_of_own HO.out
    obtain ⟨rfl, rfl⟩ : A1 = _ ∧ c1 = _ := by simpa using e
    refine HQ.out _ _ _ ?_ HB1.out
    rw [setF_zero (by rw [HL.out]; omega) HB.out]
    exact hv1
  · have hlt : a / 64 < n := by omega
    have two : ¬ (a % 64 + k ≤ 64) → 64 < a % 64 + k ∧ a / 64 + 1 < n := by intro h; constructor <;> omega
    have TWO := Lib.hid two
    clear two
    have tk : ((k : Int) == 0) = false := by rw [beq_eq_false_iff_ne]; omega
    have hm := Lib.hid (fun W => mask_k (w := W) h1)
    have hml := msk_lt h1
    have hvm : v &&& (2 ^ k - 1) < 2 ^ 64 := Nat.lt_of_le_of_lt Nat.and_le_left hv
    have ha := and64 hv hml
    have hxb := HB.out.getD (a / 64)
    have hsl1 := shl64 (2 ^ k - 1) (a % 64)
    have hsl2 := shl64 (v &&& (2 ^ k - 1)) (a % 64)
    have hb1 : (2 ^ k - 1) <<< (a % 64) % 2 ^ 64 < 2 ^ 64 := Nat.mod_lt _ (by decide)
    have hb2 : (v &&& (2 ^ k - 1)) <<< (a % 64) % 2 ^ 64 < 2 ^ 64 := Nat.mod_lt _ (by decide)
    have han := andn64 hxb hb1
    have hor := or64 (andn_lt (b := (2 ^ k - 1) <<< (a % 64) % 2 ^ 64) hxb) hb2
    by_cases hone : a % 64 + k ≤ 64
    · have hset := set_one (v := v) HB.out hone (by rw [HL.out]; exact hlt)
      unfold lowW at hset
      have hgx : ∀ (w1 : World) (g : Nat), RowIs w1 g 24 n (uvals ws) → w1.cell? ⟨g, a / 64, none⟩ = some (.int .u64 (ws.getD (a / 64) 0 : Nat)) ∧ w1.frozen? ⟨g, a / 64, none⟩ = false := fun w1 g hr => ⟨hr.cell (by
        have := HL.out
        rw [uvals, List.getElem?_map, List.getD_eq_getElem?_getD, List.getElem?_eq_getElem (by omega)]
        rfl), hr.hasBlk.frozen _⟩
      generalize ws.getD (a / 64) 0 = x at *
      generalize 2 ^ k - 1 = m at *
      generalize v &&& m = v' at *
      generalize m <<< (a % 64) % 2 ^ 64 = m1 at *
      generalize v' <<< (a % 64) % 2 ^ 64 = v1 at *
      generalize andn x m1 = x1 at *
      generalize x1 ||| v1 = X at *
      have HS := Lib.hid hset
      have HGX := Lib.hid hgx
      clear hxb hml hvm hb1 hb2 hset hgx
      go_enter Try.func13, Try.ntmps13
      go_wp2_with fail
      refine hc.out _ ?_
      rw [HT.out]
      go_wp2_with fail
      refine hcl.out _ fun w1 A1 c1 ho1 hb1 => ?_
      obtain ⟨g, rfl, hg, hrow⟩ := rowIs_of_own ho1 (by omega)
      have HR := Lib.hid hrow
      have HB1 := Lib.hid hb1
      obtain ⟨gx, gf⟩ := HGX.out w1 g hrow
      clear ho1 hb1 hrow
      go_wp2_with fail
      refine hm.out _ _ ?_
      go_wp2_with fail
      have hi0 : (0 : Int) ≤ (a : Int) / 64 := by omega
      have hi1 : (a : Int) / 64 < (n : Int) := by omega
      have hi2 : ((a : Int) / 64).toNat = a / 64 := by omega
      go_region_with (go_at_call 25; refine hm.out _ _ ?_)
      all_goals
        go_wp2_with fail
        refine HQ.out _ _ _ ?_ ((HB1.out.setCell (p := ⟨g, a / 64, none⟩) hg _).drew)
        have hv := (HR.out.set_ (a / 64) (.int .u64 (X : Int))).vals
        rw [uvals_set, HS.out] at hv
        exact hv
    · obtain ⟨t1, hlt1⟩ := TWO.out hone
      have hset := set_two (v := v) HB.out hv t1 h1 (by rw [HL.out]; exact hlt1)
      have hxb1 := HB.out.getD (a / 64 + 1)
      unfold lowW highW at hset
      have hsr1 := shr64 (2 ^ k - 1) (64 - a % 64)
      have hsr2 := shr64 (v &&& (2 ^ k - 1)) (64 - a % 64)
      have hb3 : (2 ^ k - 1) >>> (64 - a % 64) < 2 ^ 64 := shr_lt hml
      have hb4 : (v &&& (2 ^ k - 1)) >>> (64 - a % 64) < 2 ^ 64 := shr_lt hvm
      have han2 := andn64 hxb1 hb3
      have hor2 := or64 (andn_lt (b := (2 ^ k - 1) >>> (64 - a % 64)) hxb1) hb4
      have hgx : ∀ (w1 : World) (g : Nat), RowIs w1 g 24 n (uvals ws) → (w1.cell? ⟨g, a / 64, none⟩ = some (.int .u64 (ws.getD (a / 64) 0 : Nat)) ∧ w1.frozen? ⟨g, a / 64, none⟩ = false) ∧ (w1.cell? ⟨g, a / 64 + 1, none⟩ = some (.int .u64 (ws.getD (a / 64 + 1) 0 : Nat)) ∧ w1.frozen? ⟨g, a / 64 + 1, none⟩ = false) := fun w1 g hr => ⟨⟨hr.cell (by
        have := HL.out
        rw [uvals, List.getElem?_map, List.getD_eq_getElem?_getD, List.getElem?_eq_getElem (by omega)]
        rfl), hr.hasBlk.frozen _⟩, ⟨hr.cell (by
        have := HL.out
        rw [uvals, List.getElem?_map, List.getD_eq_getElem?_getD, List.getElem?_eq_getElem (by omega)]
        rfl), hr.hasBlk.frozen _⟩⟩
      generalize ws.getD (a / 64) 0 = x at *
      generalize ws.getD (a / 64 + 1) 0 = y at *
      generalize 2 ^ k - 1 = m at *
      generalize v &&& m = v' at *
      generalize m <<< (a % 64) % 2 ^ 64 = m1 at *
      generalize v' <<< (a % 64) % 2 ^ 64 = v1 at *
      generalize m >>> (64 - a % 64) = m2 at *
      generalize v' >>> (64 - a % 64) = v2 at *
      generalize andn x m1 = x1 at *
      generalize x1 ||| v1 = X at *
      generalize andn y m2 = y1 at *
      generalize y1 ||| v2 = Y at *
      have HS := Lib.hid hset
      have HGX := Lib.hid hgx
      clear hxb hxb1 hml hvm hb1 hb2 hb3 hb4 hset hgx
      go_enter Try.func13, Try.ntmps13
      go_wp2_with fail
      refine hc.out _ ?_
      rw [HT.out]
      go_wp2_with fail
      refine hcl.out _ fun w1 A1 c1 ho1 hb1 => ?_
      obtain ⟨g, rfl, hg, hrow⟩ := rowIs_of_own ho1 (by omega)
      have HR := Lib.hid hrow
      have HB1 := Lib.hid hb1
      obtain ⟨⟨gx, gf⟩, gx1, gf1⟩ := HGX.out w1 g hrow
      clear ho1 hb1 hrow
      go_wp2_with fail
      refine hm.out _ _ ?_
      go_wp2_with fail
      have hi0 : (0 : Int) ≤ (a : Int) / 64 := by omega
      have hi1 : (a : Int) / 64 < (n : Int) := by omega
      have hi2 : ((a : Int) / 64).toNat = a / 64 := by omega
      go_region_with (go_at_call 25; refine hm.out _ _ ?_)
      all_goals
        go_wp2_with fail
        have hj0 : (0 : Int) ≤ (a : Int) / 64 + 1 := by omega
        have hj1 : (a : Int) / 64 + 1 < (n : Int) := by omega
        have hj2 : ((a : Int) / 64 + 1).toNat = a / 64 + 1 := by omega
        have hw1 : IntKind.i64.wrap ((a : Int) / 64 + 1) = (a : Int) / 64 + 1 := IntWalk.i64_in _ (by omega)
        have hs0 : (0 : Int) ≤ 64 - (a : Int) % 64 := by omega
        have hs2 : (64 - (a : Int) % 64).toNat = 64 - a % 64 := by omega
        have hs3 : IntKind.i64.wrap (64 - (a : Int) % 64) = 64 - (a : Int) % 64 := IntWalk.i64_in _ (by omega)
        go_region_with (go_at_call 25; refine hm.out _ _ ?_)
        all_goals
          go_wp2_with fail
          refine HQ.out _ _ _ ?_ (by
            have hbb := ((HB1.out.setCell (p := ⟨g, a / 64, none⟩) hg (.int .u64 (X : Int)))).setCell (p := ⟨g, a / 64 + 1, none⟩) hg (.int .u64 (Y : Int))
            first
            | exact hbb
            | exact hbb.drew
            | exact hbb.drew.drew)
          have hv := ((HR.out.set_ (a / 64) (.int .u64 (X : Int))).set_ (a / 64 + 1) (.int .u64 (Y : Int))).vals
          rw [uvals_set, uvals_set, HS.out] at hv
          exact hv
end Go.Proofs.Ytfieaijehkfepaa
