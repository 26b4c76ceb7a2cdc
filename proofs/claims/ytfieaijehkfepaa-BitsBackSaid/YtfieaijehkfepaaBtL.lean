/-
  The laws' 'live'.
-/
import Derived.Test.YtfieaijehkfepaaBtK
namespace Go.Proofs.Ytfieaijehkfepaa
open Go.RowKit Go.Maps

theorem lv1 : packO [4, 8] [5, 255] = some [4085] := by kernel_rfl
theorem lv2 : unpackO [4, 8] [4085] = some [5, 255] := by kernel_rfl
theorem lv3 : packO [4] [16] = none := by kernel_rfl
theorem lv4 : setO [0, 0] 60 8 171 = some [12682136550675316736, 10] := by kernel_rfl
theorem lv5 : getO [12682136550675316736, 10] 60 8 = some 171 := by kernel_rfl
theorem lv6 : getO [12682136550675316736, 10] 121 8 = none := by kernel_rfl
theorem lv7 : nextB [12682136550675316736, 10] 62 = some 63 := by kernel_rfl
theorem lv8 : nextB [12682136550675316736, 10] 68 = none := by kernel_rfl
theorem lv9 : cntB [12682136550675316736, 10] = 5 := by kernel_rfl

theorem vals_at {w : World} {g : Nat} (hg : g = w.heap.size) (cs : Array Value) (e : TypeId) : IsVals (w.alloc (.cells cs e)) (some ⟨g, 0, none⟩) cs.size cs.toList := by
  subst hg; exact vals_new w cs e

theorem Bnd.of {ws : List Nat} (h : ws.all (fun x => decide (x < 18446744073709551616)) = true) : Bnd ws := by
  intro x hx
  have := List.all_eq_true.1 h x hx
  simpa using this

set_option maxRecDepth 100000 in
set_option maxHeartbeats 1600000 in
theorem live_any {w : World} (Q : Ending → World → Prop) (hQ : ∀ w', Below w.heap.size w w' → Q (.returned (.bool true)) w') :
    Calls Try.prog 10 #[] w Q := by
  have HQ := Lib.hid hQ
  clear hQ
  go_enter Try.func10, Try.ntmps10
  go_wp2_with fail
  refine pack_any (ks := [4, 8]) (vs := [5, 255]) ((vals_new w #[.int .i64 4, .int .i64 8] 3).alloc _) (vals_at (by simp) #[.int .u64 5, .int .u64 255] 24) (Bnd.of (by decide)) (by decide) (by decide) _ fun w1 A1 l1 c1 h1 hl1 hb1 => ?_
  rw [lv1] at h1 ⊢
  replace h1 : IsWords w1 A1 l1 [4085] := h1
  unfold pv
  have hb1' : Below w.heap.size w w1 := (((Below.refl _ w).alloc (Nat.le_refl _) _).alloc (by simp) _).trans (hb1.mono (by simp; omega))
  obtain rfl : 1 = l1 := h1.len
  obtain ⟨b1, o1, rfl, hlt1, k1⟩ := h1.at_ (k := 0) (by omega)
  have H1 := Lib.hid h1
  have HB1 := Lib.hid hb1'
  have K1 : Hid (w1.cell? ⟨b1, o1, none⟩ = some (.int .u64 4085)) := Lib.hid k1
  have hz1 := hb1'.size
  clear h1 hb1 hb1' k1
  go_wp2_with fail
  refine unpack_any (ks := [4, 8]) (ws := [4085]) (vals_new w1 #[.int .i64 4, .int .i64 8] 3) (H1.out.alloc _) (Bnd.of (by decide)) (by decide) (by decide) _ fun w2 A2 l2 c2 h2 hl2 hb2 => ?_
  rw [lv2] at h2 ⊢
  replace h2 : IsWords w2 A2 l2 [5, 255] := h2
  unfold pv
  have hb2' : Below w1.heap.size w1 w2 := ((Below.refl _ w1).alloc (Nat.le_refl _) _).trans (hb2.mono (by simp))
  obtain rfl : 2 = l2 := h2.len
  obtain ⟨b2, o2, rfl, hlt2, k2⟩ := h2.at_ (k := 1) (by omega)
  have K2 : Hid (w2.cell? ⟨b2, o2 + 1, none⟩ = some (.int .u64 255)) := Lib.hid k2
  have K1 := Lib.hid ((hb2'.cell (p := ⟨b1, o1, none⟩) hlt1).trans K1.out)
  have HB2 : Hid (Below w.heap.size w w2) := Lib.hid (HB1.out.trans (hb2'.mono hz1))
  have hz2 := hb2'.size
  clear h2 hb2 hb2' k2
  go_wp2_with fail
  refine pack_any (ks := [4]) (vs := [16]) ((vals_new w2 #[.int .i64 4] 3).alloc _) (vals_at (by simp) #[.int .u64 16] 24) (Bnd.of (by decide)) (by decide) (by decide) _ fun w3 A3 l3 c3 h3 hl3 hb3 => ?_
  rw [lv3] at h3 ⊢
  unfold pv
  have hb3' : Below w2.heap.size w2 w3 := (((Below.refl _ w2).alloc (Nat.le_refl _) _).alloc (by simp) _).trans (hb3.mono (by simp; omega))
  have K2 := Lib.hid ((hb3'.cell (p := ⟨b2, o2 + 1, none⟩) hlt2).trans K2.out)
  have K1 := Lib.hid ((hb3'.cell (p := ⟨b1, o1, none⟩) (by show b1 < _; omega)).trans K1.out)
  have HB3 : Hid (Below w.heap.size w w3) := Lib.hid (HB2.out.trans (hb3'.mono (by omega)))
  have hz3 := hb3'.size
  clear h3 hb3 hb3'
  go_wp2_with fail
  refine set_any (a := 60) (k := 8) (v := 171) (ws := [0, 0]) (vals_new w3 #[.int .u64 0, .int .u64 0] 24) (Bnd.of (by decide)) (by decide) (by decide) _ fun w4 A4 l4 c4 h4 hl4 hb4 => ?_
  rw [lv4] at h4 ⊢
  replace h4 : IsWords w4 A4 l4 [12682136550675316736, 10] := h4
  have hb4' : Below w3.heap.size w3 w4 := ((Below.refl _ w3).alloc (Nat.le_refl _) _).trans (hb4.mono (by simp))
  obtain rfl : 2 = l4 := h4.len
  obtain ⟨b4, o4, rfl, hlt4, k40⟩ := h4.at_ (k := 0) (by omega)
  obtain ⟨_, _, e, _, k41⟩ := h4.at_ (k := 1) (by omega)
  obtain ⟨rfl, rfl⟩ : b4 = _ ∧ o4 = _ := by simpa using e
  replace k40 : w4.cell? ⟨b4, o4, none⟩ = some (.int .u64 12682136550675316736) := k40
  replace k41 : w4.cell? ⟨b4, o4 + 1, none⟩ = some (.int .u64 10) := k41
  have f2 := (hb4'.cell (p := ⟨b2, o2 + 1, none⟩) (by show b2 < _; omega)).trans K2.out
  have f1 := (hb4'.cell (p := ⟨b1, o1, none⟩) (by show b1 < _; omega)).trans K1.out
  have HB4 : Hid (Below w.heap.size w w4) := Lib.hid (HB3.out.trans (hb4'.mono (by omega)))
  have hbnd : Bnd [12682136550675316736, 10] := Bnd.of (by decide)
  have hg1 := Lib.hid (get_any (a := 60) (k := 8) (c := c4) h4 hbnd (by decide))
  have hg2 := Lib.hid (get_any (a := 121) (k := 8) (c := c4) h4 hbnd (by decide))
  have hn1 := Lib.hid (next_any (c := c4) h4 hbnd (by decide) 62 62 (by decide) (by decide))
  have hn2 := Lib.hid (next_any (c := c4) h4 hbnd (by decide) 68 68 (by decide) (by decide))
  have hct := Lib.hid (count_any (c := c4) h4 hbnd (by decide))
  rw [lv5] at hg1
  rw [lv6] at hg2
  rw [lv7] at hn1
  rw [lv8] at hn2
  rw [lv9] at hct
  clear h4 hb4 hb4' hbnd e K1 K2 HB1 HB2 HB3 H1
  go_wp2_with fail
  refine hg1.out _ ?_
  unfold gv
  go_wp2_with fail
  refine hg2.out _ ?_
  unfold gv
  go_wp2_with fail
  refine hn1.out _ ?_
  unfold nv
  go_wp2_with fail
  refine hn2.out _ ?_
  unfold nv
  go_wp2_with fail
  refine hct.out _ ?_
  go_wp2_with fail
  exact HQ.out _ HB4.out
end Go.Proofs.Ytfieaijehkfepaa
