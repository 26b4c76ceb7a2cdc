/-
  RecentWalks, walked.
-/
import Derived.Test.YtenfcppcnkfidaaRcT
namespace Go.Proofs.Ytenfcppcnkfidaa
open Go.RowKit Go.Maps

/-- In the walk from the oldest one on: 'done' are met, 'rem' are still to come. -/
def Walking (w2 : World) (xs : List Int) (g : Nat) (v vi vb : Value) (wr : World) : Prop :=
  ∃ dn rem, xs = dn ++ rem ∧ g = rem.length ∧ vi = .int .i64 (hd rem) ∧ vb = .bool (more rem) ∧ Below w2.heap.size w2 wr ∧ wr.ownsRow w2.heap.size 3 1 v dn.length (vals dn)

set_option maxRecDepth 100000 in
set_option maxHeartbeats 1000000 in
theorem recentWalks_q {w : World} {A : Option Addr} {n c : Nat} {ps : List (Int × Int)} (hp : IsPairs w A n ps) (hn : n ≤ maxLen) (hwf : ∀ x ∈ ps, (Lit.int .i64 x.1).wf = true ∧ (Lit.int .i64 x.2).wf = true) (Q : Ending → World → Prop)
    (hQ : ∀ w', Below w.heap.size w w' → Q (.returned (.bool true)) w') :
    Calls Try.prog 4 #[.slice A n c] w Q := by
  have HQ := Lib.hid hQ
  have HP := Lib.hid hp
  have HW := Lib.hid hwf
  unfold maxLen at hn
  clear hQ hp hwf
  go_enter Try.func4, Try.ntmps4
  go_wp2_with fail
  refine new_st _ fun w1 S R M h1 => ?_
  by_cases hbig : 100 < n
  · have hb1 := Lib.hid h1.bel
    have hs1 := h1.siz
    clear h1
    go_wp2_with fail
    refine live_any _ fun w' hb => ?_
    go_wp2_with fail
    exact HQ.out _ (hb1.out.trans (hb.mono hs1))
  have H1 := Lib.hid h1
  clear h1
  go_wp2_with fail
  go_loopg [4] n (fun g i wr => ∃ k : Nat, k ≤ n ∧ g = n - k ∧ i = .int .i64 k ∧ ∃ m ns, St w w.heap.size wr S R M m ns ∧ m ≤ k)
  case atStart => exact ⟨0, Nat.zero_le _, rfl, rfl, _, _, H1.out, Nat.le_refl _⟩
  case round =>
    obtain ⟨k, hk, hg, rfl, m, ns, hb, hm⟩ := hrel
    have HG := Lib.hid hg
    clear hg H1
    by_cases hlt : k < n
    · obtain ⟨b, o, rfl, hbl, c0, c1⟩ := HP.out.at_ hlt
      have hi' := wf_at (k := k) HW.out
      generalize (ps.getD k (0, 0)).2 = x at *
      generalize (ps.getD k (0, 0)).1 = y at *
      have d0 : wr.cell? ⟨b, o + k * 2, none⟩ = some (.int .i64 y) := (hb.bel.cell (p := ⟨b, _, none⟩) hbl).trans c0
      have d1 : wr.cell? ⟨b, o + k * 2 + 1, none⟩ = some (.int .i64 x) := (hb.bel.cell (p := ⟨b, _, none⟩) hbl).trans c1
      have HB := Lib.hid hb
      clear hb
      by_cases hy : y = 1
      · subst hy
        go_wp2_with fail
        refine drop_any HB.out hi' _ fun w2 ns2 _ _ h2 _ => ?_
        have H2 := Lib.hid h2
        clear h2
        go_wp2_with fail
        go_roundg (n - (k + 1))
        case measure => have := HG.out; omega
        case rel => exact ⟨k + 1, by omega, rfl, by go_num, _, _, H2.out, by omega⟩
      · have ty : (y == 1) = false := by simpa using hy
        clear hy
        go_wp2_with fail
        refine touch_any HB.out hi' (by omega) _ fun w2 ns2 _ _ h2 _ => ?_
        have H2 := Lib.hid h2
        clear h2
        go_wp2_with fail
        go_roundg (n - (k + 1))
        case measure => have := HG.out; omega
        case rel => exact ⟨k + 1, by omega, rfl, by go_num, _, _, H2.out, by omega⟩
    · have hm100 : m ≤ 100 := by omega
      have HB := Lib.hid hb
      clear hb hm
      have hq := oldest_rec HB.out.re
      generalize hxs : ns.map (·.2) = xs at *
      have HX := Lib.hid (show ids ns = xs from hxs)
      have hlx : xs.length ≤ 100 := by have := HB.out.len_le; rw [← hxs]; simp only [List.length_map]; omega
      have hnx : xs.Nodup := by rw [← hxs]; exact HB.out.re.ndi
      have HNX := Lib.hid hnx
      have HQ0 := Lib.hid hq
      clear hxs hnx hq
      go_wp2_with fail
      refine HQ0.out _ ?_
      have H2 := Lib.hid (HB.out.drew)
      clear HB HQ0
      go_wp2_with fail
      obtain ⟨W2, hW2⟩ : ∃ W2, wr.drew = W2 := ⟨_, rfl⟩
      rw [hW2]
      rw [hW2] at H2
      clear hW2
      go_loopg [5, 6, 7] xs.length (fun g v vi vb w3 => Walking W2 xs g v vi vb w3)
      case atStart => exact ⟨[], xs, rfl, rfl, rfl, rfl, Below.refl _ _, World.ownsRow_nil _ _ _ _⟩
      case round =>
        obtain ⟨dn, rem, hxs, hg2, rfl, rfl, hb3, ho3⟩ := hrel
        have H3 := Lib.hid (H2.out.below hb3)
        have HB3 := Lib.hid hb3
        have hz3 := hb3.size
        have HG2 := Lib.hid hg2
        have hld : dn.length ≤ 100 := by rw [hxs] at hlx; simp only [List.length_append] at hlx; omega
        clear hb3 hg2
        cases rem with
        | nil =>
          rw [List.append_nil] at hxs
          subst hxs
          rw [show more [] = false from rfl, show hd [] = 0 from rfl]
          obtain ⟨A8, c8, rfl, _⟩ := vals_of_own ho3
          have HO3 := Lib.hid ho3
          clear ho3
          go_wp2_with fail
          refine order_any H3.out HX.out (by omega) _ fun w4 A4 c4 hb4 ho4 => ?_
          have O4 := Lib.hid (ints_own (Kept.below hb4 _ _ _ _ HO3.out))
          have N4 := Lib.hid (ints_own ho4)
          have H4 := Lib.hid (H3.out.below hb4)
          clear hb4 ho4 HO3
          go_wp2_with fail
          refine ints_any O4.out N4.out (by unfold maxLen; omega) (by unfold maxLen; omega) _ fun k1 b1 hb1' => ?_
          obtain rfl : b1 = true := hb1'.2 rfl
          have H5 := Lib.hid (H4.out.drewN k1)
          clear hb1'
          go_wp2_with fail
          refine len_any H5.out HX.out _ ?_
          have hbf := Lib.hid (And.intro H5.out.bel H5.out.siz)
          go_wp2_with fail
          refine live_any _ fun wf hbw => ?_
          have hfin := Lib.hid (hbf.out.1.trans (hbw.mono hbf.out.2))
          clear hbw
          go_wp2_with fail
          exact HQ.out _ hfin.out
        | cons x r =>
          rw [show more (x :: r) = true from rfl, show hd (x :: r) = x from rfl]
          have hnot : x ∉ dn := fun hh => by
            have hn' := HNX.out
            rw [hxs, List.nodup_append] at hn'
            exact hn'.2.2 x hh x (by simp) rfl
          have hbi : behindIds x xs = r := by rw [hxs]; exact behindIds_mid hnot
          have hxw : (Lit.int .i64 x).wf = true := by
            have : x ∈ ids ns := by rw [HX.out, hxs]; simp
            obtain ⟨p, hp, rfl⟩ := List.mem_map.1 this
            exact H2.out.re.fits p hp
          obtain ⟨A8, c8, rfl, hv8, _⟩ := vals_of_own ho3
          have HV8 := Lib.hid (show IsInts _ A8 dn.length dn from hv8)
          have HNT := Lib.hid hnot
          have HBI := Lib.hid hbi
          have HXS := Lib.hid hxs
          have HO3 := Lib.hid ho3
          clear hnot hbi hxs ho3 hv8
          generalize hdl : dn.length = q at *
          have HDL := Lib.hid hdl
          clear hdl
          obtain ⟨W3, hW3⟩ : ∃ W3, W3 = wr := ⟨_, rfl⟩
          rw [← hW3] at H3 HB3 hz3 HV8 HO3
          rw [← hW3]
          clear hW3
          go_upto_block 4 with fail
          go_cut [8] (fun s8 wc => wc = W3)
          case first =>
            go_wp2_with fail
            go_loopg [8] q (fun g i w5 => ∃ j : Nat, j ≤ q ∧ g = q - j ∧ i = .int .i64 j ∧ w5 = W3)
            case atStart => exact ⟨0, Nat.zero_le _, rfl, rfl, rfl⟩
            case round =>
              obtain ⟨j, hj, hg4, rfl, rfl⟩ := hrel
              have HG4 := Lib.hid hg4
              clear hg4
              by_cases hjq : j < q
              · obtain ⟨b4, o4, rfl, _, x0⟩ := HV8.out.at_ hjq
                have hne : (dn.getD j 0 == x) = false := by
                  rw [beq_eq_false_iff_ne]
                  rintro rfl
                  have := HDL.out
                  refine HNT.out ?_
                  rw [List.getD_eq_getElem?_getD, List.getElem?_eq_getElem (by omega)]
                  exact List.getElem_mem _
                generalize dn.getD j 0 = y at *
                go_wp2_with fail
                go_roundg (q - (j + 1))
                case measure => have := HG4.out; omega
                case rel => exact ⟨j + 1, by omega, rfl, by go_num, rfl⟩
              · go_wp2_with fail
                go_meet
                rfl
          case rest =>
            subst hcut
            go_wp2_with (first
              | (at_builtin; refine wpList_app rfl (.tmp 66) (.tmp 68) 26 rfl W2.heap.size 3 Try.underlying26 infoInt rfl (.slice A8 q c8) q _ rfl (HO3.out.alloc _) (some ⟨wc.heap.size, 0, none⟩) 1 1 [.int .i64 x] rfl (vals_one _ _ _) (by simp [Value.oneCell']) (by unfold maxLen; omega) (by omega) (by simp; omega) ?_; intro A9 c9 w9 ho9 hg9; have hb9 := Lib.hid (own_grown (HB3.out.alloc hz3 _) (HO3.out.alloc _) hg9 (by simp; omega)); have HO9 := Lib.hid ho9; clear ho9 hg9))
            have H9 := Lib.hid (H2.out.below hb9.out)
            refine newer_rec H9.out.re hxw _ fun m9 => ?_
            rw [show ns.map (·.2) = xs from HX.out, HBI.out]
            go_wp2_with fail
            go_roundg r.length
            case measure => have := HG2.out; simp at this; omega
            case rel => exact ⟨dn ++ [x], r, by rw [HXS.out]; simp, rfl, rfl, rfl, ⟨hb9.out.os, hb9.out.tape, hb9.out.output, hb9.out.size, hb9.out.block⟩, by rw [vals_append, List.length_append, HDL.out]; exact HO9.out⟩

theorem RecentWalks_walk (a0 : Option Addr) (len0 cap0 : Nat) (z0 : List (Int × Int)) (w : World) (i0 : IsPairs w a0 len0 z0) (m0 : len0 ≤ maxLen) (w0 : ∀ x ∈ z0, (Lit.int .i64 x.1).wf = true ∧ (Lit.int .i64 x.2).wf = true) :
    Calls Try.prog 4 #[.slice a0 len0 cap0] w fun e w' => e = .returned (.bool true) ∧ Below w.heap.size w w' :=
  recentWalks_q i0 m0 w0 _ fun _ hb => ⟨rfl, hb⟩
end Go.Proofs.Ytenfcppcnkfidaa
