/-
  RecentTouches, walked.
-/
import Derived.Test.YtenfcppcnkfidaaRcD
import Derived.Test.YtenfcppcnkfidaaKitP
import Derived.Deep.DeepCutAuto
import Derived.Deep.CutBlock
namespace Go.Proofs.Ytenfcppcnkfidaa
open Go.RowKit Go.Maps

theorem wf_at {ps : List (Int × Int)} {k : Nat} (hw : ∀ x ∈ ps, (Lit.int .i64 x.1).wf = true ∧ (Lit.int .i64 x.2).wf = true) : (Lit.int .i64 (ps.getD k (0, 0)).2).wf = true := by
  by_cases hk : k < ps.length
  · refine (hw _ ?_).2
    rw [List.getD_eq_getElem?_getD, List.getElem?_eq_getElem hk]
    exact List.getElem_mem _
  · rw [List.getD_eq_getElem?_getD, List.getElem?_eq_none (by omega)]
    decide

theorem restI_restI (id : Int) (xs : List Int) : restI id (restI id xs ++ [id]) = restI id xs := by
  unfold restI
  simp [List.filter_append, List.filter_filter]

theorem restI_take {id : Int} {xs : List Int} {k : Nat} (hk : k < xs.length) : restI id (xs.take (k + 1)) = restI id (xs.take k) ++ (if xs.getD k 0 = id then [] else [xs.getD k 0]) := by
  unfold restI
  rw [List.take_succ_eq_append_getElem hk, List.filter_append, List.getD_eq_getElem?_getD, List.getElem?_eq_getElem hk]
  congr 1
  by_cases h : xs[k] = id <;> simp [h]

set_option maxRecDepth 100000 in
set_option maxHeartbeats 1000000 in
theorem recentTouches_q {w : World} {A : Option Addr} {n c : Nat} {ps : List (Int × Int)} {id : Int} (hp : IsPairs w A n ps) (hn : n ≤ maxLen) (hwf : ∀ x ∈ ps, (Lit.int .i64 x.1).wf = true ∧ (Lit.int .i64 x.2).wf = true) (hi : (Lit.int .i64 id).wf = true) (Q : Ending → World → Prop)
    (hQ : ∀ w', Below w.heap.size w w' → Q (.returned (.bool true)) w') :
    Calls Try.prog 5 #[.slice A n c, .int .i64 id] w Q := by
  have HQ := Lib.hid hQ
  have HP := Lib.hid hp
  have HW := Lib.hid hwf
  unfold maxLen at hn
  clear hQ hp hwf
  go_enter Try.func5, Try.ntmps5
  go_wp2_with fail
  refine new_st _ fun w1 S R M h1 => ?_
  by_cases hout : 60 < n ∨ id < 0
  · have hb1 := Lib.hid h1.bel
    have hs1 := h1.siz
    clear h1
    by_cases hbig : 60 < n
    · go_wp2_with fail
      refine live_any _ fun w' hb => ?_
      go_wp2_with fail
      exact HQ.out _ (hb1.out.trans (hb.mono hs1))
    · have hneg : id < 0 := by omega
      clear hout
      go_wp2_with fail
      refine live_any _ fun w' hb => ?_
      go_wp2_with fail
      exact HQ.out _ (hb1.out.trans (hb.mono hs1))
  have hbig : ¬ 60 < n := fun h => hout (.inl h)
  have hneg : ¬ id < 0 := fun h => hout (.inr h)
  clear hout
  have H1 := Lib.hid h1
  clear h1
  go_wp2_with fail
  go_loopg [6] n (fun g i wr => ∃ k : Nat, k ≤ n ∧ g = n - k ∧ i = .int .i64 k ∧ ∃ m ns, St w w.heap.size wr S R M m ns ∧ m ≤ k)
  case atStart => exact ⟨0, Nat.zero_le _, rfl, rfl, _, _, H1.out, Nat.le_refl _⟩
  case round =>
    obtain ⟨k, hk, hg, rfl, m, ns, hb, hm⟩ := hrel
    have HG := Lib.hid hg
    clear hg H1
    by_cases hlt : k < n
    · obtain ⟨b, o, rfl, hbl, c0, c1⟩ := HP.out.at_ hlt
      have hi' := wf_at (k := k) HW.out
      generalize (ps.getD k (0, 0)).2 = x at *
      have d1 : wr.cell? ⟨b, o + k * 2 + 1, none⟩ = some (.int .i64 x) := (hb.bel.cell (p := ⟨b, _, none⟩) hbl).trans c1
      have HB := Lib.hid hb
      clear hb
      go_wp2_with fail
      refine touch_any HB.out hi' (by omega) _ fun w2 ns2 _ _ h2 _ => ?_
      have H2 := Lib.hid h2
      clear h2
      go_wp2_with fail
      go_roundg (n - (k + 1))
      case measure => have := HG.out; omega
      case rel => exact ⟨k + 1, by omega, rfl, by go_num, _, _, H2.out, by omega⟩
    · have HB := Lib.hid hb
      have hm100 : m ≤ 100 := by omega
      clear hb
      go_wp2_with fail
      refine order_any HB.out rfl (by omega) _ fun w2 A2 c2 hb2 ho2 => ?_
      have h2 := Lib.hid (HB.out.below hb2)
      generalize hxs : ids ns = xs at *
      have hlx : xs.length ≤ 100 := by have := h2.out.len_le; rw [← hxs]; simp only [ids, List.length_map]; omega
      have HX := Lib.hid hxs
      have HO2 := Lib.hid ho2
      have HB2 := Lib.hid hb2
      clear hxs ho2 hb2 HB
      generalize hql : xs.length = q at *
      have HQL := Lib.hid hql
      clear hql
      go_wp2_with fail
      go_loopg [8, 9] q (fun g v i wr => ∃ j e : Nat, j ≤ q ∧ g = q - j ∧ i = .int .i64 j ∧ Below w2.heap.size w2 wr ∧ e ≤ j ∧ wr.ownsRow w2.heap.size 3 1 v e (vals (restI id (xs.take j))))
      case atStart => exact ⟨0, 0, Nat.zero_le _, rfl, rfl, Below.refl _ _, Nat.le_refl _, World.ownsRow_nil _ _ _ _⟩
      case round =>
        obtain ⟨j, e, hj, hg2, rfl, hb3, he, ho3⟩ := hrel
        have HG2 := Lib.hid hg2
        have HB3 := Lib.hid hb3
        have hz3 := hb3.size
        have HV := ints_own HO2.out
        clear hg2 hb3
        by_cases hjq : j < q
        · obtain ⟨b3, o3, rfl, hb3l, x0⟩ := HV.at_ hjq
          have rt := restI_take (id := id) (k := j) (xs := xs) (by rw [HQL.out]; exact hjq)
          generalize xs.getD j 0 = y at *
          have y0 : wr.cell? ⟨b3, o3 + j, none⟩ = some (.int .i64 y) := (HB3.out.cell (p := ⟨b3, _, none⟩) hb3l).trans x0
          have HV' := Lib.hid HV
          clear HV
          by_cases hy : y = id
          · subst hy
            rw [if_pos rfl, List.append_nil] at rt
            have RT := Lib.hid rt
            have HO3 := Lib.hid ho3
            clear rt ho3
            go_wp2_with fail
            go_roundg (q - (j + 1))
            case measure => have := HG2.out; omega
            case rel => exact ⟨j + 1, e, by omega, rfl, by go_num, HB3.out, by omega, by rw [RT.out]; exact HO3.out⟩
          · rw [if_neg hy] at rt
            have RT := Lib.hid rt
            have ty : (y != id) = true := by simpa using hy
            clear rt
            go_wp2_with (first
              | (at_builtin; refine wpList_app rfl (.tmp 52) (.tmp 57) 26 rfl w2.heap.size 3 Try.underlying26 infoInt rfl _ e _ rfl (ho3.alloc _) (some ⟨wr.heap.size, 0, none⟩) 1 1 [.int .i64 y] rfl (vals_one _ _ _) (by simp [Value.oneCell']) (by unfold maxLen; omega) (by omega) (by simp; omega) ?_; intro A4 c4 w4 ho4 hg4; have hb4 := Lib.hid (own_grown (HB3.out.alloc hz3 _) (ho3.alloc _) hg4 (by simp; omega)); have HO4 := Lib.hid ho4; clear ho4 hg4))
            go_roundg (q - (j + 1))
            case measure => have := HG2.out; omega
            case rel => exact ⟨j + 1, e + 1, by omega, rfl, by go_num, hb4.out, by omega, by rw [RT.out, vals_append]; exact HO4.out⟩
        · have ej : j = q := by omega
          subst ej
          rw [List.take_of_length_le (by rw [HQL.out]; exact Nat.le_refl _)] at ho3
          obtain ⟨A8, c8, rfl, _⟩ := vals_of_own ho3
          have h3 := Lib.hid (h2.out.below HB3.out)
          have HO3 := Lib.hid ho3
          clear ho3 HV
          go_wp2_with fail
          refine touch_any h3.out hi (by omega) _ fun w4 ns4 _ k4 h4 e4 => ?_
          have O4 := Lib.hid (k4 _ _ _ _ HO3.out)
          have H4 := Lib.hid h4
          have tq : te id = 0 := by rw [te, if_neg (by omega)]
          rw [HX.out, tI, if_neg (by omega)] at e4
          have E4 := Lib.hid e4
          clear k4 h4 e4 h3 HO3
          go_wp2_with fail
          refine order_any H4.out E4.out (by omega) _ fun w5 A5 c5 hb5 ho5 => ?_
          have O5 := Lib.hid (Kept.below hb5 _ _ _ _ O4.out)
          have H5 := Lib.hid (H4.out.below hb5)
          have N5 := Lib.hid ho5
          clear hb5 ho5 H4 O4
          go_wp2_with fail
          refine drop_any H5.out hi _ fun w6 ns6 _ k6 h6 e6 => ?_
          rw [E4.out] at e6 ⊢
          rw [restI_restI] at e6
          rw [show ((restI id xs ++ [id]).any (· == id)) = true by simp]
          have O6 := Lib.hid (k6 _ _ _ _ O5.out)
          have N6 := Lib.hid (k6 _ _ _ _ N5.out)
          have H6 := Lib.hid h6
          have E6 := Lib.hid e6
          clear k6 h6 e6 H5 O5 N5
          go_wp2_with fail
          refine order_any H6.out E6.out (by omega) _ fun w7 A7 c7 hb7 ho7 => ?_
          have O7 := Lib.hid (Kept.below hb7 _ _ _ _ O6.out)
          have N7 := Lib.hid (Kept.below hb7 _ _ _ _ N6.out)
          have H7 := Lib.hid (H6.out.below hb7)
          have L7 := Lib.hid ho7
          clear hb7 ho7 H6 O6 N6
          have hlr : (restI id xs).length ≤ 100 := by have : (restI id xs).length ≤ xs.length := List.length_filter_le _ _; have := HQL.out; omega
          have hle : e = (restI id xs).length := by have := O7.out.1; rw [vals_length] at this; omega
          have HLE := Lib.hid hle
          clear hle
          go_wp2_with (first
            | (at_builtin; refine wpList_app rfl (.tmp 73) (.tmp 74) 26 rfl w7.heap.size 3 Try.underlying26 infoInt rfl (.slice (some ⟨w7.heap.size, 0, none⟩) 0 0) 0 [] rfl (own_empty w7 _ 3 (Nat.le_refl _)) A8 e c8 _ rfl ((ints_own O7.out).alloc _) (vals_cell _) (by unfold maxLen; omega) (by omega) (by simp) ?_; intro A9 c9 w9 ho9 hg9; rw [Nat.zero_add, List.nil_append] at ho9; have hb9 := Lib.hid (own_grown ((Below.refl _ w7).alloc (Nat.le_refl _) _) (own_empty w7 _ 3 (Nat.le_refl _)) hg9 (by simp)); have hz9 := hb9.out.size; clear hg9)
            | (at_builtin; refine wpList_app rfl (.tmp 75) (.tmp 77) 26 rfl w7.heap.size 3 Try.underlying26 infoInt rfl (.slice A9 e c9) e _ rfl (ho9.alloc _) (some ⟨w9.heap.size, 0, none⟩) 1 1 [.int .i64 id] rfl (vals_one _ _ _) (by simp [Value.oneCell']) (by unfold maxLen; omega) (by omega) (by simp; omega) ?_; intro A10 c10 w10 ho10 hg10; have hb10 := Lib.hid (own_grown (hb9.out.alloc hz9 _) (ho9.alloc _) hg10 (by simp; omega)); have HO10 := Lib.hid ho10; clear ho10 hg10))
          have hl10 : (restI id xs ++ [id]).length = (restI id xs).length + 1 := by simp
          have v5 := ints_own (Kept.below hb10.out _ _ _ _ N7.out)
          rw [hl10] at v5
          have v10 : IsInts _ A10 (e + 1) (restI id xs ++ [id]) := ints_own (by rw [vals_append]; exact HO10.out)
          refine ints_any v5 v10 (by unfold maxLen; omega) (by unfold maxLen; omega) _ fun k1 b1 hb1' => ?_
          obtain rfl : b1 = true := hb1'.2 rfl
          have O11 := Lib.hid (Kept.below hb10.out _ _ _ _ O7.out)
          have L11 := Lib.hid (Kept.below hb10.out _ _ _ _ L7.out)
          have H11 := Lib.hid (H7.out.below hb10.out)
          clear hb1' v5 v10 hl10 O7 L7 N7
          go_wp2_with fail
          have v8 := (ints_own O11.out).drewN k1
          have v7 := (ints_own L11.out).drewN k1
          refine ints_any v7 v8 (by unfold maxLen; omega) (by unfold maxLen; omega) _ fun k2 b2 hb2' => ?_
          obtain rfl : b2 = true := hb2'.2 rfl
          have hbf := Lib.hid (H11.out.drewN (k1 + k2)).bel
          have hsf := Lib.hid (H11.out.drewN (k1 + k2)).siz
          clear hb2' v7 v8
          go_wp2_with fail
          refine live_any _ fun wf hbw => ?_
          have hfin := Lib.hid (hbf.out.trans (hbw.mono hsf.out))
          clear hbw
          go_wp2_with fail
          exact HQ.out _ hfin.out

theorem RecentTouches_walk (a0 : Option Addr) (len0 cap0 : Nat) (z0 : List (Int × Int)) (a1 : Int) (w1 : (Lit.int .i64 a1).wf = true) (w : World) (i0 : IsPairs w a0 len0 z0) (m0 : len0 ≤ maxLen) (w0 : ∀ x ∈ z0, (Lit.int .i64 x.1).wf = true ∧ (Lit.int .i64 x.2).wf = true) :
    Calls Try.prog 5 #[.slice a0 len0 cap0, .int .i64 a1] w fun e w' => e = .returned (.bool true) ∧ Below w.heap.size w w' :=
  recentTouches_q i0 m0 w0 w1 _ fun _ hb => ⟨rfl, hb⟩
end Go.Proofs.Ytenfcppcnkfidaa
