/-
  The laws BitsCounts, BitsGets, BitsPacks, walked.
-/
import Derived.Test.YtfieaijehkfepaaBtL
import Derived.Test.YtfieaijehkfepaaKitA
namespace Go.Proofs.Ytfieaijehkfepaa
open Go.RowKit Go.Maps

theorem below_of_drewN {B : Nat} {w w' : World} {q : Nat} (h : Below B (w.drewN q) w') : Below B w w' := ⟨h.os, h.tape, h.output, h.size, h.block⟩

theorem words_of {w : World} {A : Option Addr} {n : Nat} {zs : List Int} (i : IsVals w A n (zs.map (.int .u64))) (hz : ∀ x ∈ zs, (Lit.int .u64 x).wf = true) : ∃ ws, IsWords w A n ws ∧ Bnd ws := by
  refine ⟨zs.map Int.toNat, ?_, fun y hy => ?_⟩
  · have : uvals (zs.map Int.toNat) = zs.map (.int .u64) := by
      unfold uvals
      rw [List.map_map]
      refine List.map_congr_left fun x hx => ?_
      obtain ⟨m, rfl, _⟩ := nat_of_u64 (hz x hx)
      simp
    unfold IsWords
    rw [this]
    exact i
  · obtain ⟨x, hx, rfl⟩ := List.mem_map.1 hy
    obtain ⟨m, rfl, hm⟩ := nat_of_u64 (hz x hx)
    simpa using hm

set_option maxHeartbeats 800000 in
theorem BitsCounts_walk (A : Option Addr) (n c : Nat) (zs : List Int) (f : Int) (hf : (Lit.int .i64 f).wf = true) (W : World) (i : IsVals W A n (zs.map (.int .u64))) (hm : n ≤ maxLen) (hz : ∀ x ∈ zs, (Lit.int .u64 x).wf = true) (Q : Ending → World → Prop) (hQ : ∀ w', Below W.heap.size W w' → Q (.returned (.bool true)) w') :
    Calls Try.prog 4 #[.slice A n c, .int .i64 f] W Q := by
  have HQ := Lib.hid hQ
  clear hQ
  obtain ⟨ws, hx, hb⟩ := words_of i hz
  have hf2 := (bounds_i64 hf).2
  have HX := Lib.hid hx
  have HB := Lib.hid hb
  clear hx hb i hz hf
  unfold maxLen at hm
  by_cases h20 : n ≤ 20
  · have hn1 := Lib.hid (next_any (c := c) HX.out HB.out (by omega) f f.toNat rfl hf2)
    have hn2 := Lib.hid (rnext_any (c := c) HX.out HB.out (by omega) f f.toNat rfl)
    have hc1 := Lib.hid (count_any (c := c) HX.out HB.out (by omega))
    have hc2 := Lib.hid (rcount_any (c := c) HX.out HB.out (by omega))
    generalize cntB ws = N at *
    generalize nextB ws f.toNat = o at *
    cases o with
    | none =>
      go_enter Try.func4, Try.ntmps4
      go_wp2_with fail
      refine hn1.out _ ?_
      unfold nv
      go_wp2_with fail
      refine hn2.out _ ?_
      unfold nv
      go_wp2_with fail
      refine hc1.out _ ?_
      go_wp2_with fail
      refine hc2.out _ ?_
      go_wp2_with fail
      refine live_any _ fun w' hb' => ?_
      have HB' := Lib.hid hb'
      clear hb'
      go_wp2_with fail
      exact HQ.out _ (HB'.out)
    | some p =>
      go_enter Try.func4, Try.ntmps4
      go_wp2_with fail
      refine hn1.out _ ?_
      unfold nv
      go_wp2_with fail
      refine hn2.out _ ?_
      unfold nv
      go_wp2_with fail
      refine hc1.out _ ?_
      go_wp2_with fail
      refine hc2.out _ ?_
      go_wp2_with fail
      refine live_any _ fun w' hb' => ?_
      have HB' := Lib.hid hb'
      clear hb'
      go_wp2_with fail
      exact HQ.out _ (HB'.out)
  · go_enter Try.func4, Try.ntmps4
    go_wp2_with fail
    refine live_any _ fun w' hb' => ?_
    have HB' := Lib.hid hb'
    clear hb'
    go_wp2_with fail
    exact HQ.out _ (HB'.out)

set_option maxHeartbeats 1600000 in
theorem BitsGets_walk (A : Option Addr) (n c : Nat) (zs : List Int) (z : List Int) (hl : z.length = 2) (hw : ∀ x ∈ z, (Lit.int .i64 x).wf = true) (v : Int) (hv : (Lit.int .u64 v).wf = true) (W : World) (i : IsVals W A n (zs.map (.int .u64))) (hm : n ≤ maxLen) (hz : ∀ x ∈ zs, (Lit.int .u64 x).wf = true) (Q : Ending → World → Prop) (hQ : ∀ w', Below W.heap.size W w' → Q (.returned (.bool true)) w') :
    Calls Try.prog 3 #[.slice A n c, .agg (z.map (.int .i64)).toArray, .int .u64 v] W Q := by
  have HQ := Lib.hid hQ
  clear hQ
  obtain ⟨ws, hx, hb⟩ := words_of i hz
  obtain ⟨v, rfl, hv64⟩ := nat_of_u64 hv
  obtain ⟨a, k, rfl⟩ : ∃ a k, z = [a, k] := by
    match z, hl with
    | [a, k], _ => exact ⟨a, k, rfl⟩
  clear hl hv hz i hw
  show Calls Try.prog 3 #[.slice A n c, .agg #[.int .i64 a, .int .i64 k], .int .u64 v] W _
  have HX := Lib.hid hx
  have HB := Lib.hid hb
  have HV := Lib.hid hv64
  clear hx hb hv64
  unfold maxLen at hm
  by_cases h20 : n ≤ 20
  · have HGE := Lib.hid (fun w' (hb : Below W.heap.size W w') => get_any (w := w') (a := a) (k := k) (c := c) (HX.out.below hb) HB.out (by omega))
    have HRG := Lib.hid (fun w' (hb : Below W.heap.size W w') => rget_any (w := w') (a := a) (k := k) (c := c) (HX.out.below hb) HB.out (by omega))
    have HSE := Lib.hid (fun w' (hb : Below W.heap.size W w') => set_any (w := w') (a := a) (k := k) (c := c) (HX.out.below hb) HB.out HV.out (by omega))
    have HRS := Lib.hid (fun w' (hb : Below W.heap.size W w') => rset_any (w := w') (a := a) (k := k) (c := c) (HX.out.below hb) HB.out HV.out (by omega))
    generalize getO ws a k = G at *
    generalize (setO ws a k v).isSome = S at *
    generalize (setO ws a k v).getD [] = R at *
    cases G
    all_goals
      go_enter Try.func3, Try.ntmps3
      go_wp2_with fail
      refine HGE.out _ ((Below.refl _ W).alloc (Nat.le_refl _) _) _ ?_
      unfold gv
      go_wp2_with fail
      refine HRG.out _ ((Below.refl _ W).alloc (Nat.le_refl _) _) _ ?_
      unfold gv
      go_wp2_with fail
      refine HSE.out _ ((Below.refl _ W).alloc (Nat.le_refl _) _) _ fun w1 A1 l1 c1 h1 hl1 hb1 => ?_
      have hb1' : Below W.heap.size W w1 := ((Below.refl _ W).alloc (Nat.le_refl _) _).trans (hb1.mono (by simp))
      have f0 : w1.cell? ⟨W.heap.size, 0, none⟩ = some (.int .i64 a) := (hb1.cell (p := ⟨W.heap.size, 0, none⟩) (by simp)).trans (by simp)
      have f1 : w1.cell? ⟨W.heap.size, 1, none⟩ = some (.int .i64 k) := (hb1.cell (p := ⟨W.heap.size, 1, none⟩) (by simp)).trans (by simp)
      have H1 := Lib.hid (And.intro h1 hb1')
      clear h1 hb1 hb1'
      go_wp2_with fail
      refine HRS.out _ H1.out.2 _ fun w2 A2 l2 c2 h2 hl2 hb2 => ?_
      have H2 := Lib.hid (And.intro h2 hb2)
      clear h2 hb2
      go_wp2_with fail
      refine same_any (H1.out.1.below H2.out.2) H2.out.1 (by omega) (by omega) _ fun q => ?_
      simp only [decide_true]
      go_wp2_with fail
      refine live_any _ fun w3 hb3 => ?_
      have H3 := Lib.hid (below_of_drewN hb3)
      clear hb3
      go_wp2_with fail
      have HT := H1.out.2.trans (H2.out.2.mono H1.out.2.size)
      exact HQ.out _ (HT.trans (H3.out.mono HT.size))
  · go_enter Try.func3, Try.ntmps3
    go_wp2_with fail
    refine live_any _ fun w' hb' => ?_
    have HB' := Lib.hid hb'
    clear hb'
    go_wp2_with fail
    exact HQ.out _ (((Below.refl _ W).alloc (Nat.le_refl _) _).trans (HB'.out.mono (by simp)))

set_option maxHeartbeats 800000 in
theorem BitsPacks_walk (A : Option Addr) (n c : Nat) (ks : List Int) (B : Option Addr) (m d : Nat) (vs : List Int) (C : Option Addr) (l e : Nat) (zs : List Int) (W : World)
    (i : IsVals W A n (ks.map (.int .i64))) (hm : n ≤ maxLen) (_ : ∀ x ∈ ks, (Lit.int .i64 x).wf = true) (i2 : IsVals W B m (vs.map (.int .u64))) (hm2 : m ≤ maxLen) (hv : ∀ x ∈ vs, (Lit.int .u64 x).wf = true) (i3 : IsVals W C l (zs.map (.int .u64))) (hm3 : l ≤ maxLen) (hz : ∀ x ∈ zs, (Lit.int .u64 x).wf = true) (Q : Ending → World → Prop) (hQ : ∀ w', Below W.heap.size W w' → Q (.returned (.bool true)) w') :
    Calls Try.prog 5 #[.slice A n c, .slice B m d, .slice C l e] W Q := by
  have HQ := Lib.hid hQ
  clear hQ
  obtain ⟨vs, hx2, hb2⟩ := words_of i2 hv
  obtain ⟨ws, hx3, hb3⟩ := words_of i3 hz
  have hx : IsInts W A n ks := i
  clear i2 hv i3 hz i
  have HX := Lib.hid hx
  have HX2 := Lib.hid hx2
  have HX3 := Lib.hid hx3
  have HB2 := Lib.hid hb2
  have HB3 := Lib.hid hb3
  clear hx hx2 hx3 hb2 hb3
  unfold maxLen at hm hm2 hm3
  by_cases hall : n ≤ 120 ∧ m ≤ 120 ∧ l ≤ 120
  · obtain ⟨g1, g2, g3⟩ := hall
    have HP := Lib.hid (fun w' (hb : Below W.heap.size W w') => pack_any (w := w') (c := c) (d := d) (HX.out.below hb) (HX2.out.below hb) HB2.out (by omega) (by omega))
    have HRP := Lib.hid (fun w' (hb : Below W.heap.size W w') => rpack_any (w := w') (c := c) (d := d) (HX.out.below hb) (HX2.out.below hb) HB2.out (by omega) (by omega))
    have HU := Lib.hid (fun w' (hb : Below W.heap.size W w') => unpack_any (w := w') (c := c) (d := e) (HX.out.below hb) (HX3.out.below hb) HB3.out (by omega) (by omega))
    have HRU := Lib.hid (fun w' (hb : Below W.heap.size W w') => runpack_any (w := w') (c := c) (d := e) (HX.out.below hb) (HX3.out.below hb) HB3.out (by omega) (by omega))
    generalize (packO ks vs).isSome = S at *
    generalize (packO ks vs).getD [] = R at *
    generalize (unpackO ks ws).isSome = T at *
    generalize (unpackO ks ws).getD [] = U at *
    unfold pv at HP HRP HU HRU
    go_enter Try.func5, Try.ntmps5
    go_wp2_with fail
    refine HP.out _ (Below.refl _ W) _ fun w1 A1 l1 c1 h1 hl1 hb1 => ?_
    have H1 := Lib.hid (And.intro h1 hb1)
    clear h1 hb1
    go_wp2_with fail
    refine HRP.out _ H1.out.2 _ fun w2 A2 l2 c2 h2 hl2 hb2 => ?_
    have H2 := Lib.hid (And.intro h2 (And.intro hb2 (H1.out.2.trans (hb2.mono H1.out.2.size))))
    clear h2 hb2
    go_wp2_with fail
    refine HU.out _ H2.out.2.2 _ fun w3 A3 l3 c3 h3 hl3 hb3 => ?_
    have H3 := Lib.hid (And.intro h3 (And.intro hb3 (H2.out.2.2.trans (hb3.mono H2.out.2.2.size))))
    clear h3 hb3
    go_wp2_with fail
    refine HRU.out _ H3.out.2.2 _ fun w4 A4 l4 c4 h4 hl4 hb4 => ?_
    have H4 := Lib.hid (And.intro h4 (And.intro hb4 (H3.out.2.2.trans (hb4.mono H3.out.2.2.size))))
    clear h4 hb4
    go_wp2_with fail
    refine same_any (((H1.out.1.below H2.out.2.1).below H3.out.2.1).below H4.out.2.1) ((H2.out.1.below H3.out.2.1).below H4.out.2.1) (by omega) (by omega) _ fun q => ?_
    simp only [decide_true]
    go_wp2_with fail
    refine same_any (xs := U) (ys := U) ((H3.out.1.below H4.out.2.1).drewN q) (H4.out.1.drewN q) (by omega) (by omega) _ fun q2 => ?_
    simp only [decide_true]
    go_wp2_with fail
    refine live_any _ fun w5 hb5 => ?_
    have H5 := Lib.hid (below_of_drewN hb5)
    clear hb5
    go_wp2_with fail
    exact HQ.out _ (H4.out.2.2.trans (H5.out.mono H4.out.2.2.size))
  · have hall' : 120 < n ∨ n ≤ 120 ∧ 120 < m ∨ n ≤ 120 ∧ m ≤ 120 ∧ 120 < l := by omega
    clear hall
    rcases hall' with h | ⟨h, h2⟩ | ⟨h, h2, h3⟩
    all_goals
      go_enter Try.func5, Try.ntmps5
      go_wp2_with fail
      refine live_any _ fun w' hb' => ?_
      have HB' := Lib.hid hb'
      clear hb'
      go_wp2_with fail
      exact HQ.out _ (HB'.out)
end Go.Proofs.Ytfieaijehkfepaa
