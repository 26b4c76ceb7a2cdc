/-
  WheelDrains, walked.
-/
import Derived.Test.YtbhhbddmokddeaaWoM
import Derived.Test.YtbhhbddmokddeaaWsB
import Derived.Deep.RegionWith
namespace Go.Proofs.Ytbhhbddmokddeaa
open Go.RowKit Go.Maps

/-- What is left, where the rows below a have been emptied. -/
def restL (L : Nat → List Int) (a : Nat) : Nat → List Int := fun t => if t < a then [] else L t

theorem rest_nxt {L : Nat → List Int} {a s : Nat} (h : nxtL (restL L a) 0 = some s) : a ≤ s ∧ s < 64 ∧ L s ≠ [] ∧ ∀ t, a ≤ t → t < s → L t = [] := by
  obtain ⟨_, h2, h3, h4⟩ := nxt_some h
  have ha : a ≤ s := by
    rcases Nat.lt_or_ge s a with e | e
    · exact absurd (if_pos e) h3
    · exact e
  refine ⟨ha, h2, ?_, fun t h5 h6 => ?_⟩
  · intro e
    exact h3 ((if_neg (by omega)).trans e)
  · have := h4 t (Nat.zero_le _) h6
    unfold restL at this
    rwa [if_neg (by omega)] at this

theorem rest_none {L : Nat → List Int} {a : Nat} (h : nxtL (restL L a) 0 = none) : ∀ t, a ≤ t → t < 64 → L t = [] := fun t h1 h2 => by
  have := nxt_none h t (Nat.zero_le _) h2
  unfold restL at this
  rwa [if_neg (by omega)] at this

theorem rest_cut {L : Nat → List Int} {a s : Nat} (hs : s < 64) (ha : a ≤ s) (h0 : ∀ t, a ≤ t → t < s → L t = []) : cutL (restL L a) (s : Int) = restL L (s + 1) := by
  unfold cutL
  have hm : mayB (s : Int) = true := by unfold mayB; rw [decide_eq_true_iff]; omega
  rw [if_pos hm, Int.toNat_natCast]
  funext t
  by_cases e : t = s
  · subst e
    rw [updL_same, restL, if_pos (by omega)]
  · rw [updL_other _ _ e]
    unfold restL
    by_cases h1 : t < a
    · rw [if_pos h1, if_pos (by omega)]
    · rw [if_neg h1]
      by_cases h2 : t < s + 1
      · rw [if_pos h2]; exact h0 t (by omega) (by omega)
      · rw [if_neg h2]

theorem rest_row {L : Nat → List Int} {a s : Nat} (hs : s < 64) (ha : a ≤ s) : rowL (restL L a) (s : Int) = L s := by
  unfold rowL
  have hm : mayB (s : Int) = true := by unfold mayB; rw [decide_eq_true_iff]; omega
  rw [if_pos hm, Int.toNat_natCast, restL, if_neg (by omega)]

theorem rest_good {L : Nat → List Int} (h : Good L) (a : Nat) : Good (restL L a) := by
  have hm : ∀ s x, x ∈ restL L a s → x ∈ L s := by
    intro s x hx
    unfold restL at hx
    split at hx
    · cases hx
    · exact hx
  refine ⟨fun s hs => ?_, fun s t hs ht x hx hy => h.dis s t hs ht x (hm s x hx) (hm t x hy), fun s hs x hx => h.fits s hs x (hm s x hx)⟩
  unfold restL
  split
  · exact List.nodup_nil
  · exact h.nd s hs

/-- An id of the row that was emptied is nowhere now. -/
theorem rest_gone {L : Nat → List Int} (h : Good L) {s : Nat} (hs : s < 64) {x : Int} (hx : x ∈ L s) : locL (restL L (s + 1)) x = none := by
  cases e : locL (restL L (s + 1)) x with
  | none => rfl
  | some t =>
    obtain ⟨h1, h2, _⟩ := loc_some e
    unfold restL at h2
    split at h2
    · cases h2
    · have := h.dis s t hs h1 x hx h2
      omega

theorem rest_all {L : Nat → List Int} {a : Nat} (ha : a ≤ 64) (h : ∀ t, a ≤ t → t < 64 → L t = []) : lenL (restL L a) = 0 ∧ maskL (restL L a) 0 64 = 0 ∧ (metTo L a).length = lenL L := by
  have h0 : ∀ t, t < 64 → restL L a t = [] := fun t ht => by
    unfold restL
    split
    · rfl
    · exact h t (by omega) ht
  refine ⟨?_, ?_, ?_⟩
  · rw [lenL_congr (L := fun _ => []) h0]; rfl
  · have : maskL (restL L a) 0 64 = maskL (fun _ => []) 0 64 := ofB_congr fun t ht => by rw [Nat.zero_add, h0 t ht]
    rw [this]
    have : ((maskL (fun _ => []) 0 64 : Nat) == 0) = true := by kernel_rfl
    exact of_decide_eq_true (by simpa using this)
  · rw [← metTo_lenL, metTo_skip ha h]

theorem zeroBool (w : World) : (zeroValue 4).run Try.prog w = .ok (.bool false) w := by kernel_rfl

theorem restL_zero (L : Nat → List Int) : restL L 0 = L := funext fun _ => if_neg (Nat.not_lt_zero _)

set_option maxHeartbeats 3200000 in
set_option maxRecDepth 100000 in
theorem WheelDrains_walk (A : Option Addr) (n c : Nat) (ps : List Tri) (w : World) (hp : IsTris w A n ps) (hn : n ≤ maxLen) (hwf : ∀ x ∈ ps, TriOk x) (Q : Ending → World → Prop)
    (hQ : ∀ w', Below w.heap.size w w' → Q (.returned (.bool true)) w') :
    Calls Try.prog 7 #[.slice A n c] w Q := by
  have HQ := Lib.hid hQ
  have HP := Lib.hid hp
  have HW := Lib.hid hwf
  have hmm := @run_makeMap Try.prog
  unfold maxLen at hn
  clear hQ hp hwf
  go_enter Try.func7, Try.ntmps7
  go_wp2_with fail
  refine new_wh _ fun w1 S M h1 => ?_
  by_cases hbig : 100 < n
  · have HB1 := Lib.hid h1.bel
    clear h1
    go_wp2_with fail
    refine live_any _ fun w' hb => ?_
    have HF := Lib.hid (HB1.out.trans (hb.mono HB1.out.size))
    clear hb
    go_wp2_with fail
    exact HQ.out _ HF.out
  have H1 := Lib.hid h1
  clear h1
  go_wp2_with fail
  go_loopg [4] n (fun g i wr => ∃ k : Nat, k ≤ n ∧ g = n - k ∧ i = .int .i64 k ∧ Hid (∃ m L, Wh w wr S M m L ∧ m ≤ k))
  case atStart => exact ⟨0, Nat.zero_le _, rfl, rfl, Lib.hid ⟨_, _, H1.out, Nat.le_refl _⟩⟩
  case round =>
    obtain ⟨k, hk, hg, rfl, HR⟩ := hrel
    have HG := Lib.hid hg
    clear hg H1
    obtain ⟨m, L, hb, hm⟩ := HR.out
    have HB := Lib.hid hb
    clear HR hb
    by_cases hlt : k < n
    · obtain ⟨b, o, rfl, hbl, c0, c1, c2⟩ := HP.out.at_ hlt
      generalize ps.getD k (0, 0, 0) = p at *
      obtain ⟨dop, sl, id⟩ := p
      dsimp only at *
      have d1 : wr.cell? ⟨b, o + k * 3 + 1, none⟩ = some (.int .i64 sl) := (HB.out.bel.cell (p := ⟨b, _, none⟩) hbl).trans c1
      have d2 : wr.cell? ⟨b, o + k * 3 + 2, none⟩ = some (.int .i64 id) := (HB.out.bel.cell (p := ⟨b, _, none⟩) hbl).trans c2
      clear c0 c1 c2
      go_wp2_with fail
      go_region_with (go_at_call 15; refine add_wh HB.out.drew (by omega) _ (fun w2 h2 _ => ?_); have H2 := Lib.hid h2; clear h2)
      all_goals
        go_wp2_with fail
        go_roundg (n - (k + 1))
        case measure => have := HG.out; omega
        case rel => exact ⟨k + 1, by omega, rfl, by go_num, Lib.hid ⟨_, _, H2.out, by split <;> omega⟩⟩
    · have hm1 : m ≤ 100 := by omega
      clear hm HG
      go_wp2_with fail
      refine len_wh HB.out _ ?_
      have hlen := HB.out.lenL
      have hll := metTo_lenL L
      generalize hT : lenL L = T at *
      have HLEN := Lib.hid (And.intro hlen hll)
      have hT100 : T ≤ 100 := by omega
      clear hlen hll hT
      have hG0 : Hid (Wh w (wr.alloc (.map #[] 0)) S M m L ∧ IMap Try.prog 3 (wr.alloc (.map #[] 0)) wr.heap.size 0 0 (gotF []) ∧ wr.heap.size ≠ M ∧ w.heap.size ≤ wr.heap.size ∧ Good L) := Lib.hid ⟨HB.out.below ((Below.refl _ wr).alloc (Nat.le_refl _) _), IMap.made _ _ _, (by have := HB.out.lt; omega), HB.out.bel.size, HB.out.good⟩
      go_wp2_with fail
      obtain ⟨G, hGe⟩ : ∃ G, G = wr.heap.size := ⟨_, rfl⟩
      rw [← hGe] at hG0 ⊢
      generalize wr.alloc (.map #[] 0) = wg at *
      clear hGe HB
      refine next_wh hG0.out.1 (by decide) _ ?_
      rw [nv_eq]
      go_wp2_with fail
      go_loopg [7, 8] 64 (fun g s is wr => ∃ a : Nat, a ≤ 64 ∧ g = 64 - a ∧ s = .int .i64 (nvA (nxtL (restL L a) 0)) ∧ is = .bool (nxtL (restL L a) 0).isSome ∧ Hid (Wh w wr S M m (restL L a) ∧ IMap Try.prog 3 wr G (metTo L a).length (metTo L a).length (gotF (metTo L a))))
      case atStart => exact ⟨0, Nat.zero_le _, rfl, by rw [restL_zero], by rw [restL_zero], Lib.hid ⟨by rw [restL_zero]; exact hG0.out.1, hG0.out.2.1⟩⟩
      case round =>
        obtain ⟨a, ha, hg2, hs1, hs2, HR⟩ := hrel
        have HG2 := Lib.hid hg2
        clear hg2
        cases e : nxtL (restL L a) 0 with
        | none =>
          rw [e] at hs1 hs2
          obtain rfl : _ = Value.int .i64 0 := hs1
          obtain rfl : _ = Value.bool false := hs2
          obtain ⟨e1, e2, e3⟩ := rest_all ha (rest_none e)
          have hT : (metTo L a).length = T := e3.trans ((metTo_lenL L).symm.trans HLEN.out.2)
          rw [hT] at HR
          have HE := Lib.hid (And.intro e1 e2)
          clear e1 e2 e3 hT e
          go_wp2_with (first
            | (at_len; refine wpList_maplen _ rfl _ 48 rfl 3 4 Try.underlying48 G _ _ _ rfl HR.out.2 ?_))
          refine len_wh HR.out.1 _ ?_
          rw [HE.out.1]
          go_wp2_with fail
          refine mask_wh HR.out.1 _ ?_
          rw [HE.out.2]
          go_wp2_with fail
          refine live_any _ fun w' hb' => ?_
          have HF := Lib.hid (HR.out.1.bel.trans (hb'.mono HR.out.1.bel.size))
          clear hb'
          go_wp2_with fail
          exact HQ.out _ HF.out
        | some s =>
          rw [e] at hs1 hs2
          obtain rfl : _ = Value.int .i64 (s : Int) := hs1
          obtain rfl : _ = Value.bool true := hs2
          obtain ⟨ha', hs, hne, hz⟩ := rest_nxt e
          have hrow := rest_row (L := L) hs ha'
          have hcut := rest_cut hs ha' hz
          have hmet := metTo_skip ha' hz
          have hgood := hG0.out.2.2.2.2
          have hq0 : 0 < (L s).length := List.length_pos_iff.2 hne
          have hqT : (metTo L s).length + (L s).length ≤ 100 := Nat.le_trans (metTo_le hs (Nat.le_refl _)) (by rw [← metTo_lenL, HLEN.out.2]; exact hT100)
          generalize hq : (L s).length = q at *
          have HQQ := Lib.hid hq
          have HN := Lib.hid (And.intro hne (And.intro hz (And.intro hrow (And.intro hcut (And.intro hmet hgood)))))
          clear e hne hz hrow hcut hmet hgood hq
          have hqn : ((q : Int) == 0) = false := by simp; omega
          go_wp2_with fail
          refine row_wh HR.out.1 (by omega) _ fun w2 A2 c2 hb2 hv2 hk2 => ?_
          rw [HN.out.2.2.1, HQQ.out] at hv2 ⊢
          have HR2 := Lib.hid (And.intro (HR.out.1.below hb2) (And.intro (HR.out.2.only (F := fun _ => False) (Only.ofBelow hb2) id) (show IsRow w2 A2 q (L s) from ⟨hv2, fun _ b o e => (hk2 b o e).1⟩)))
          clear hb2 hv2 hk2 HR
          go_wp2_with fail
          refine empty_wh HR2.out.1 (by omega) _ fun w3 A3 c3 h3 hv3 ho3 => ?_
          rw [HN.out.2.2.1, HQQ.out] at hv3 ⊢
          rw [HN.out.2.2.2.1] at h3
          have HR3 := Lib.hid (And.intro h3 (And.intro (HR2.out.2.1.only ho3 (Wh.map_ne HR2.out.2.1 hG0.out.2.2.1)) (And.intro (HR2.out.2.2.only ho3 fun b hb => HR2.out.1.other hb (by decide) (by decide) (by decide)) hv3)))
          clear h3 hv3 ho3 HR2
          go_wp2_with fail
          refine ints_any HR3.out.2.2.1.1 HR3.out.2.2.2.1 (by unfold maxLen; omega) (by unfold maxLen; omega) _ fun kk bb hbb => ?_
          obtain rfl : bb = true := hbb.2 rfl
          have HR4 := Lib.hid (And.intro (HR3.out.1.drewN kk) (And.intro (HR3.out.2.1.drewN kk) (HR3.out.2.2.2.below (w' := w3.drewN kk) ⟨rfl, rfl, rfl, Nat.le_refl _, fun _ _ => rfl⟩)))
          generalize w3.drewN kk = w4 at *
          clear hbb HR3
          go_wp2_with fail
          go_loopg [11] q (fun g i wi => ∃ j : Nat, j ≤ q ∧ g = q - j ∧ i = .int .i64 (j : Int) ∧ Hid (Wh w wi S M m (restL L (s + 1)) ∧ IMap Try.prog 3 wi G ((metTo L s).length + j) ((metTo L s).length + j) (gotF (metTo L s ++ (L s).take j)) ∧ IsRow wi A3 q (L s)))
          case atStart => exact ⟨0, Nat.zero_le _, rfl, rfl, Lib.hid ⟨HR4.out.1, by rw [HN.out.2.2.2.2.1, List.take_zero, List.append_nil]; exact HR4.out.2.1, HR4.out.2.2⟩⟩
          case round =>
            obtain ⟨j, hj, hg3, rfl, HI⟩ := hrel
            have HG3 := Lib.hid hg3
            clear hg3 HR4
            by_cases hjq : j < q
            · obtain ⟨b, o', rfl, _, d0⟩ := HI.out.2.2.1.at_ hjq
              have hjl : j < (L s).length := by rw [HQQ.out]; exact hjq
              have hx1 : (Lit.int .i64 ((L s).getD j 0)).wf = true := HN.out.2.2.2.2.2.fits s hs _ (getD_mem hjl)
              have hx2 := rest_gone HN.out.2.2.2.2.2 hs (getD_mem hjl)
              have hx3 : gotF (metTo L s ++ (L s).take j) ((L s).getD j 0) = none := if_neg (met_new HN.out.2.2.2.2.2 hs hjl)
              have hx4 := take_snoc hjl
              generalize (L s).getD j 0 = x at *
              have HX := Lib.hid (And.intro hx1 (And.intro hx2 (And.intro hx3 hx4)))
              clear hx1 hx2 hx3 hx4 hjl
              go_wp2_with fail
              refine where_wh HI.out.1 HX.out.1 _ ?_
              rw [HX.out.2.1]
              unfold nv
              go_wp2_with (first
                | (at_lookup; refine wpList_look0 _ rfl _ _ 48 rfl 3 4 Try.underlying3 Try.underlying48 (zeroBool _) G _ _ _ rfl HI.out.2.1 x rfl HX.out.1 HX.out.2.2.1 ?_)
                | (at_mapUpdate; refine wpList_put _ rfl _ _ _ 48 rfl 3 4 Try.underlying3 Try.underlying48 G _ _ _ rfl HI.out.2.1 (by unfold maxLen; omega) x (.bool true) rfl rfl HX.out.1 ?_; intro w5 hm5 ht5; rw [HX.out.2.2.1, gotF_snoc] at hm5; have M5 := Lib.hid hm5; have T5 := Lib.hid ht5; clear hm5 ht5))
              go_roundg (q - (j + 1))
              case measure => have := HG3.out; omega
              case rel =>
                have ho5 : Only (fun k => k = G) wr w5 := (Only.refl (fun i => i = G) wr).turned T5.out (.inl rfl)
                exact ⟨j + 1, by omega, rfl, by go_num, Lib.hid ⟨HI.out.1.only ho5 (fun k hk e => Wh.map_ne HI.out.2.1 hG0.out.2.2.1 (e ▸ hk)) (fun k e => e ▸ Nat.le_trans hG0.out.2.2.2.1 (Nat.le_refl _)), by rw [HX.out.2.2.2, ← List.append_assoc]; exact M5.out, HI.out.2.2.only ho5 fun b hb e => by obtain ⟨_, hb⟩ := hb; exact HI.out.2.1.ne_blk hb e⟩⟩
            · have hje : j = q := by omega
              subst hje
              have HF : Hid (Wh w wr S M m (restL L (s + 1)) ∧ IMap Try.prog 3 wr G (metTo L (s + 1)).length (metTo L (s + 1)).length (gotF (metTo L (s + 1)))) := Lib.hid ⟨HI.out.1, by
                have := HI.out.2.1
                rw [← HQQ.out, List.take_length] at this
                rw [metTo, List.length_append]
                exact this⟩
              clear HI
              go_wp2_with fail
              refine next_wh HF.out.1 (f := 0) (by decide) _ ?_
              rw [nv_eq]
              go_wp2_with fail
              go_roundg (64 - (s + 1))
              case measure => have := HG2.out; omega
              case rel => exact ⟨s + 1, by omega, rfl, rfl, rfl, HF⟩
end Go.Proofs.Ytbhhbddmokddeaa
