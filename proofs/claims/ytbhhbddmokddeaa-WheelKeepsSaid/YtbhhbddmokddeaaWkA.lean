/-
  WheelKeeps, walked.
-/
import Derived.Test.YtbhhbddmokddeaaWoP
import Derived.Deep.RegionHeld3
namespace Go.Proofs.Ytbhhbddmokddeaa
open Go.RowKit Go.Maps

def za : Array Value := (List.replicate 64 (Value.slice none 0 0)).toArray

theorem za_run (w : World) : (zeroValue 27).run Try.prog w = .ok (.agg za) w := by kernel_rfl
theorem za_at {i : Nat} (h : i < 64) : za[i]? = some (.slice none 0 0) := by
  unfold za
  rw [List.getElem?_toArray, List.getElem?_replicate, if_pos h]

/-- The rows that were, as far as k. -/
structure Was (w : World) (D k : Nat) (L : Nat → List Int) : Prop where
  cell : ∀ t, t < k → ∃ A c, w.cell? ⟨D, t, none⟩ = some (.slice A (L t).length c) ∧ IsRow w A (L t).length (L t)
  any : ∀ t, t < 64 → ∃ v, w.cell? ⟨D, t, none⟩ = some v
  blk : HasBlk w D 27

theorem Was.only {w w' : World} {D k : Nat} {L : Nat → List Int} {G : Nat → Prop} (h : Was w D k L) (ho : Only G w w') (hD : ¬ G D) (hi : ∀ b, HasBlk w b 3 → ¬ G b) : Was w' D k L := by
  refine ⟨fun t ht => ?_, fun t ht => ?_, h.blk.only ho hD⟩
  · obtain ⟨A, c, h1, h2⟩ := h.cell t ht
    exact ⟨A, c, (ho.cell h.blk.lt hD).trans h1, h2.only ho hi⟩
  · obtain ⟨v, h1⟩ := h.any t ht
    exact ⟨v, (ho.cell h.blk.lt hD).trans h1⟩

theorem Was.below {w w' : World} {D k : Nat} {L : Nat → List Int} (h : Was w D k L) (hb : Below w.heap.size w w') : Was w' D k L := h.only (Only.ofBelow (F := fun _ => False) hb) id fun _ _ => id

theorem Was.own {w0 w w' : World} {S M n D k : Nat} {L L' : Nat → List Int} (h : Was w D k L) (hw : Wh w0 w S M n L') (ho : Only (Own w M) w w') : Was w' D k L :=
  h.only ho (hw.other h.blk (by decide) (by decide) (by decide)) fun _ hb => hw.other hb (by decide) (by decide) (by decide)

theorem was_new (w : World) (L : Nat → List Int) : Was (w.alloc (.cells za 27)) w.heap.size 0 L :=
  ⟨fun _ h => absurd h (Nat.not_lt_zero _), fun _ ht => ⟨_, ((Blk.new w 27 za).cell _).trans (za_at ht)⟩, ⟨_, Blk.new w _ _⟩⟩

theorem Was.set_ {w : World} {D k c : Nat} {L : Nat → List Int} {A : Option Addr} (h : Was w D k L) (hk : k < 64) (hr : IsRow w A (L k).length (L k)) :
    Was (w.setCell ⟨D, k, none⟩ (.slice A (L k).length c)) D (k + 1) L ∧ Only (fun b => b = D) w (w.setCell ⟨D, k, none⟩ (.slice A (L k).length c)) := by
  have ho : Only (fun b => b = D) w (w.setCell ⟨D, k, none⟩ (.slice A (L k).length c)) := (Only.refl (fun b => b = D) w).setCell (p := ⟨D, k, none⟩) (.inl rfl) _
  have hne : ∀ b, HasBlk w b 3 → ¬ b = D := fun b hb e => by
    subst e
    exact hb.ne h.blk (by decide) rfl
  refine ⟨⟨fun t ht => ?_, fun t ht => ?_, h.blk.setCell _ _⟩, ho⟩
  · by_cases e : t = k
    · subst e
      obtain ⟨v, h1⟩ := h.any t hk
      exact ⟨A, c, World.cell?_setCell_same _ _ _ h1, hr.only ho hne⟩
    · obtain ⟨A0, c0, h1, h2⟩ := h.cell t (by omega)
      exact ⟨A0, c0, (World.cell?_setCell_other _ _ _ _ (by simp only [ne_eq, Addr.mk.injEq]; omega)).trans h1, h2.only ho hne⟩
  · by_cases e : t = k
    · subst e
      obtain ⟨v, h1⟩ := h.any t hk
      exact ⟨_, World.cell?_setCell_same _ _ _ h1⟩
    · obtain ⟨v, h1⟩ := h.any t ht
      exact ⟨v, (World.cell?_setCell_other _ _ _ _ (by simp only [ne_eq, Addr.mk.injEq]; omega)).trans h1⟩

/-! plain laws -/

theorem keepL_not (id : Int) (l : List Int) : id ∉ keepL id l := by
  unfold keepL
  simp

theorem off_twice (L : Nat → List Int) (id : Int) : offL (offL L id) id = offL L id := funext fun t => keepL_out (keepL_not id (L t))

theorem off_loc (L : Nat → List Int) (id : Int) : locL (offL L id) id = none := by
  cases e : locL (offL L id) id with
  | none => rfl
  | some s =>
    obtain ⟨_, h2, _⟩ := loc_some e
    exact absurd h2 (keepL_not id (L s))

def newL (L : Nat → List Int) (k : Nat) (id : Int) : Nat → List Int := updL (offL L id) k (offL L id k ++ [id])

theorem put_new {L : Nat → List Int} {k : Nat} {id : Int} (h : okA (k : Int) id = true) : putL (offL L id) (k : Int) id = newL L k id := by
  unfold putL
  rw [if_pos h, Int.toNat_natCast, off_twice]
  rfl

theorem off_new (L : Nat → List Int) (k : Nat) (id : Int) : offL (newL L k id) id = offL L id := by
  funext t
  show keepL id (newL L k id t) = offL L id t
  unfold newL
  by_cases e : t = k
  · subst e
    rw [updL_same]
    show keepL id (keepL id (L t) ++ [id]) = keepL id (L t)
    unfold keepL
    rw [List.filter_append, List.filter_filter]
    simp
  · rw [updL_other _ _ e]
    exact congrFun (off_twice L id) t

theorem new_same (L : Nat → List Int) (k : Nat) (id : Int) : newL L k id k = offL L id k ++ [id] := updL_same _ _ _
theorem new_other (L : Nat → List Int) {k t : Nat} (id : Int) (h : t ≠ k) : newL L k id t = offL L id t := updL_other _ _ h

theorem new_loc {L : Nat → List Int} {k : Nat} {id : Int} (hg : Good (newL L k id)) (hk : k < 64) : (locL (newL L k id) id).isSome = true := by
  rw [loc_mem hg hk (by rw [new_same]; simp)]
  rfl

theorem rowL_at {L : Nat → List Int} {s : Nat} (hs : s < 64) : rowL L (s : Int) = L s := by
  unfold rowL
  have hm : mayB (s : Int) = true := by unfold mayB; rw [decide_eq_true_iff]; omega
  rw [if_pos hm, Int.toNat_natCast]

set_option maxHeartbeats 6400000 in
set_option maxRecDepth 100000 in
theorem WheelKeeps_walk (A : Option Addr) (n c : Nat) (ps : List Tri) (slot : Int) (_ : (Lit.int .i64 slot).wf = true) (id : Int) (hid : (Lit.int .i64 id).wf = true) (w : World) (hp : IsTris w A n ps) (hn : n ≤ maxLen) (hwf : ∀ x ∈ ps, TriOk x) (Q : Ending → World → Prop)
    (hQ : ∀ w', Below w.heap.size w w' → Q (.returned (.bool true)) w') :
    Calls Try.prog 5 #[.slice A n c, .int .i64 slot, .int .i64 id] w Q := by
  have HQ := Lib.hid hQ
  have HP := Lib.hid hp
  have HW := Lib.hid hwf
  have HID := Lib.hid hid
  have hz := za_run
  unfold maxLen at hn
  clear hQ hp hwf hid
  go_enter Try.func5, Try.ntmps5
  go_wp2_with fail
  refine new_wh _ fun w1 S M h1 => ?_
  by_cases hbig : 60 < n
  · have HB1 := Lib.hid h1.bel
    clear h1
    go_wp2_with fail
    refine live_any _ fun w' hb => ?_
    have HF := Lib.hid (HB1.out.trans (hb.mono HB1.out.size))
    clear hb
    go_wp2_with fail
    exact HQ.out _ HF.out
  have H1 := Lib.hid h1
  clear h1
  go_wp2_with fail
  go_loopg [8] n (fun g i wr => ∃ k : Nat, k ≤ n ∧ g = n - k ∧ i = .int .i64 k ∧ Hid (∃ m L, Wh w wr S M m L ∧ m ≤ k))
  case atStart => exact ⟨0, Nat.zero_le _, rfl, rfl, Lib.hid ⟨_, _, H1.out, Nat.le_refl _⟩⟩
  case round =>
    obtain ⟨k, hk, hg, rfl, HR⟩ := hrel
    have HG := Lib.hid hg
    clear hg H1
    obtain ⟨m, L, hb, hm⟩ := HR.out
    have HB := Lib.hid hb
    clear HR hb
    by_cases hlt : k < n
    · obtain ⟨b, o, rfl, hbl, c0, c1, c2⟩ := HP.out.at_ hlt
      generalize ps.getD k (0, 0, 0) = p at *
      obtain ⟨dop, sl, id⟩ := p
      dsimp only at *
      have d1 : wr.cell? ⟨b, o + k * 3 + 1, none⟩ = some (.int .i64 sl) := (HB.out.bel.cell (p := ⟨b, _, none⟩) hbl).trans c1
      have d2 : wr.cell? ⟨b, o + k * 3 + 2, none⟩ = some (.int .i64 id) := (HB.out.bel.cell (p := ⟨b, _, none⟩) hbl).trans c2
      clear c0 c1 c2
      go_wp2_with fail
      go_region_with (go_at_call 15; refine add_wh HB.out.drew (by omega) _ (fun w2 h2 _ => ?_); have H2 := Lib.hid h2; clear h2)
      all_goals
        go_wp2_with fail
        go_roundg (n - (k + 1))
        case measure => have := HG.out; omega
        case rel => exact ⟨k + 1, by omega, rfl, by go_num, Lib.hid ⟨_, _, H2.out, by split <;> omega⟩⟩
    · have hm1 : m ≤ 100 := by omega
      clear hm HG
      go_wp2_with fail
      refine drop_wh HB.out HID.out _ fun w2 h2 _ => ?_
      have H2 : Hid (Wh w (w2.alloc (.cells za 27)) S M m (offL L id) ∧ Was (w2.alloc (.cells za 27)) w2.heap.size 0 (offL L id) ∧ w.heap.size ≤ w2.heap.size) := Lib.hid ⟨h2.below ((Below.refl _ w2).alloc (Nat.le_refl _) _), was_new w2 _, h2.bel.size⟩
      clear h2
      obtain ⟨D, hD⟩ : ∃ D, D = w2.heap.size := ⟨_, rfl⟩
      have HD := Lib.hid hD
      go_wp2_with fail
      rw [← hD] at H2 ⊢
      generalize w2.alloc (.cells za 27) = w3 at *
      clear hD HB
      go_loopg [10] 64 (fun g i wr => ∃ s : Nat, s ≤ 64 ∧ g = 64 - s ∧ i = .int .i64 (s : Int) ∧ Hid (Wh w wr S M m (offL L id) ∧ Was wr D s (offL L id)))
      case atStart => exact ⟨0, Nat.zero_le _, rfl, rfl, Lib.hid ⟨H2.out.1, H2.out.2.1⟩⟩
      case round =>
        obtain ⟨s, hs, hg, rfl, HR⟩ := hrel
        have HG := Lib.hid hg
        clear hg
        by_cases hlt : s < 64
        · have hs0 : 0 ≤ (s : Int) := by omega
          have hs64 : (s : Int) < 64 := by omega
          go_wp2_with fail
          refine row_wh HR.out.1 (by omega) _ fun w4 A4 c4 hb4 hv4 hk4 => ?_
          rw [rowL_at hlt] at hv4 ⊢
          have h4 := HR.out.2.below hb4
          have hset := h4.set_ (c := c4) hlt ⟨hv4, fun _ b o e => (hk4 b o e).1⟩
          have HF := Lib.hid (And.intro ((HR.out.1.below hb4).only hset.2 (fun k hk e => (HR.out.1.below hb4).other h4.blk (by decide) (by decide) (by decide) (e ▸ hk)) fun k e => e ▸ HD.out ▸ H2.out.2.2) hset.1)
          have fz := h4.blk.frozen s
          obtain ⟨v0, d0⟩ := h4.any s hlt
          clear hb4 hv4 hk4 h4 hset HR
          go_wp2_with fail
          go_roundg (64 - (s + 1))
          case measure => have := HG.out; omega
          case rel => exact ⟨s + 1, by omega, rfl, by go_num, HF⟩
        · obtain rfl : s = 64 := by omega
          cases hok : okA slot id with
          | false =>
            have he : errI slot id = 1 := by unfold errI; rw [hok]; rfl
            have hp : putL (offL L id) slot id = offL L id := by unfold putL; rw [hok]; rfl
            have HE := Lib.hid (And.intro he hp)
            clear he hp hok HG
            go_wp2_with fail
            refine add_wh HR.out.1 (by omega) _ fun w4 h4 _ => ?_
            rw [HE.out.1]
            rw [HE.out.2] at h4
            have H4 := Lib.hid h4
            clear h4
            go_wp2_with fail
            refine where_wh H4.out HID.out _ ?_
            rw [off_loc]
            unfold nv
            go_wp2_with fail
            refine live_any _ fun w' hb' => ?_
            have HF := Lib.hid (H4.out.bel.trans (hb'.mono H4.out.bel.size))
            clear hb'
            go_wp2_with fail
            exact HQ.out _ HF.out
          | true =>
            have hc := hok
            simp only [okA, decide_eq_true_eq] at hc
            obtain ⟨k, rfl⟩ : ∃ k : Nat, slot = (k : Int) := ⟨slot.toNat, by omega⟩
            have hk64 : k < 64 := by omega
            have he : errI (k : Int) id = 0 := by unfold errI; rw [hok]; rfl
            have HE := Lib.hid (And.intro he (And.intro (put_new (L := L) hok) hok))
            clear he hc hok HG
            go_wp2_with fail
            refine add_wh HR.out.1 (by omega) _ fun w4 h4 ho4 => ?_
            rw [HE.out.1]
            rw [HE.out.2.1, HE.out.2.2, if_pos rfl] at h4
            have H4 := Lib.hid (And.intro h4 (HR.out.2.own HR.out.1 ho4))
            clear h4 ho4 HR
            go_wp2_with fail
            go_loopg [14] 64 (fun g i wr => ∃ s : Nat, s ≤ 64 ∧ g = 64 - s ∧ i = .int .i64 (s : Int) ∧ Hid (Wh w wr S M (m + 1) (newL L k id) ∧ Was wr D 64 (offL L id)))
            case atStart => exact ⟨0, Nat.zero_le _, rfl, rfl, H4⟩
            case round =>
              obtain ⟨s, hs, hg, rfl, HR⟩ := hrel
              have HG := Lib.hid hg
              clear hg H4
              by_cases hlt : s < 64
              · have hs0 : 0 ≤ (s : Int) := by omega
                have hs64 : (s : Int) < 64 := by omega
                obtain ⟨A0, c0, d0, hr0⟩ := HR.out.2.cell s hlt
                have hDl := HR.out.2.blk.lt
                have hlen : (newL L k id s).length ≤ m + 1 := HR.out.1.len hlt
                have HLEN := Lib.hid hlen
                have HR0 := Lib.hid hr0
                clear hlen hr0
                by_cases hsk : s = k
                · subst hsk
                  have hnew := new_same L s id
                  generalize hxs : offL L id s = xs at *
                  generalize hq : xs.length = q at *
                  have HX := Lib.hid (And.intro hxs (And.intro hq hnew))
                  have hq1 : q ≤ 100000 := by have := HLEN.out; rw [hnew, List.length_append, hq] at this; simp at this; omega
                  clear hxs hq hnew HLEN
                  have d1 : (wr.alloc (.cells #[] 3)).cell? ⟨D, s, none⟩ = some (.slice A0 q c0) := (((Below.refl _ wr).alloc (Nat.le_refl _) (.cells #[] 3)).cell (p := ⟨D, s, none⟩) hDl).trans d0
                  go_wp2_with (first
                    | (at_builtin; refine wpList_app rfl (.tmp 86) (.tmp 89) 26 rfl wr.heap.size 3 Try.underlying26 infoInt rfl (.slice (some ⟨wr.heap.size, 0, none⟩) 0 0) 0 [] rfl (own_empty wr _ 3 (Nat.le_refl _)) A0 q c0 (ivals xs) rfl (IsVals.alloc HR0.out.1 _) (ivals_cell _) (by unfold maxLen; omega) (by omega) (by simp) ?_; intro A1 c1 w2 ho2 hg2; rw [Nat.zero_add, List.nil_append] at ho2; have HB2 := Lib.hid (own_grown ((Below.refl _ wr).alloc (Nat.le_refl _) _) (own_empty wr _ 3 (Nat.le_refl _)) hg2 (by simp)); have HO2 := Lib.hid ho2; have hz2 := HB2.out.size; clear ho2 hg2)
                    | (at_builtin; refine wpList_app rfl (.tmp 90) (.tmp 92) 26 rfl wr.heap.size 3 Try.underlying26 infoInt rfl (.slice A1 q c1) q (ivals xs) rfl (HO2.out.alloc _) (some ⟨w2.heap.size, 0, none⟩) 1 1 [.int .i64 id] rfl (vals_one _ _ _) (by simp [Value.oneCell']) (by unfold maxLen; omega) (by omega) (by simp; omega) ?_; intro A3 c3 w3 ho3 hg3; have HB3 := Lib.hid (own_grown (HB2.out.alloc hz2 _) (HO2.out.alloc _) hg3 (by simp; omega)); have HO3 := Lib.hid ho3; clear ho3 hg3))
                  have HR3 := Lib.hid (And.intro (HR.out.1.below HB3.out) (HR.out.2.below HB3.out))
                  refine row_wh HR3.out.1 (by omega) _ fun w5 A5 c5 hb5 hv5 _ => ?_
                  rw [rowL_at hlt] at hv5 ⊢
                  have hi3 : IsInts w3 A3 (q + 1) (xs ++ [id]) := own_ints (by rw [ivals_append]; exact HO3.out)
                  have HI := Lib.hid (And.intro hv5 (IsVals.below hi3 hb5))
                  have HR5 := Lib.hid (And.intro (HR3.out.1.below hb5) (HR3.out.2.below hb5))
                  clear hb5 hv5 hi3 HR3 HR HO3 HB3
                  go_wp2_with fail
                  refine ints_any HI.out.1 HI.out.2 (by rw [HX.out.2.2, List.length_append, HX.out.2.1]; simp; unfold maxLen; omega) (by unfold maxLen; omega) _ fun kk bb hbb => ?_
                  obtain rfl : bb = true := hbb.2 (by rw [HX.out.2.2])
                  have HF := Lib.hid (And.intro (HR5.out.1.drewN kk) (HR5.out.2.below (w' := w5.drewN kk) ⟨rfl, rfl, rfl, Nat.le_refl _, fun _ _ => rfl⟩))
                  clear hbb
                  go_wp2_with fail
                  go_roundg (64 - (s + 1))
                  case measure => have := HG.out; omega
                  case rel => exact ⟨s + 1, by omega, rfl, by go_num, HF⟩
                · have hb1 : ((s : Int) == (k : Int)) = false := by simp; omega
                  have hnew := new_other L id hsk
                  generalize hxs : offL L id s = xs at *
                  generalize hq : xs.length = q at *
                  have HX := Lib.hid (And.intro hxs (And.intro hq hnew))
                  have hq1 : q ≤ 100000 := by have := HLEN.out; rw [hnew, hq] at this; omega
                  clear hxs hq hnew HLEN hsk
                  go_wp2_with fail
                  refine row_wh HR.out.1 (by omega) _ fun w5 A5 c5 hb5 hv5 _ => ?_
                  rw [rowL_at hlt] at hv5 ⊢
                  have HI := Lib.hid (And.intro hv5 (HR0.out.below hb5).1)
                  have HR5 := Lib.hid (And.intro (HR.out.1.below hb5) (HR.out.2.below hb5))
                  clear hb5 hv5 HR
                  go_wp2_with fail
                  refine ints_any HI.out.1 HI.out.2 (by rw [HX.out.2.2, HX.out.2.1]; unfold maxLen; omega) (by unfold maxLen; omega) _ fun kk bb hbb => ?_
                  obtain rfl : bb = true := hbb.2 (by rw [HX.out.2.2])
                  have HF := Lib.hid (And.intro (HR5.out.1.drewN kk) (HR5.out.2.below (w' := w5.drewN kk) ⟨rfl, rfl, rfl, Nat.le_refl _, fun _ _ => rfl⟩))
                  clear hbb
                  go_wp2_with fail
                  go_roundg (64 - (s + 1))
                  case measure => have := HG.out; omega
                  case rel => exact ⟨s + 1, by omega, rfl, by go_num, HF⟩
              · obtain rfl : s = 64 := by omega
                clear HG
                go_wp2_with fail
                refine drop_wh HR.out.1 HID.out _ fun w5 h5 ho5 => ?_
                rw [new_loc HR.out.1.good hk64]
                rw [off_new] at h5
                have H5 := Lib.hid (And.intro h5 (HR.out.2.own HR.out.1 ho5))
                clear h5 ho5 HR
                go_wp2_with fail
                go_loopg [17] 64 (fun g i wr => ∃ s : Nat, s ≤ 64 ∧ g = 64 - s ∧ i = .int .i64 (s : Int) ∧ Hid (Wh w wr S M (m + 1) (offL L id) ∧ Was wr D 64 (offL L id)))
                case atStart => exact ⟨0, Nat.zero_le _, rfl, rfl, H5⟩
                case round =>
                  obtain ⟨s, hs, hg, rfl, HR⟩ := hrel
                  have HG := Lib.hid hg
                  clear hg H5
                  by_cases hlt : s < 64
                  · have hs0 : 0 ≤ (s : Int) := by omega
                    have hs64 : (s : Int) < 64 := by omega
                    obtain ⟨A0, c0, d0, hr0⟩ := HR.out.2.cell s hlt
                    have hDl := HR.out.2.blk.lt
                    have hlen : (offL L id s).length ≤ m + 1 := HR.out.1.len hlt
                    have HR0 := Lib.hid hr0
                    generalize hxs : offL L id s = xs at *
                    generalize hq : xs.length = q at *
                    have HX := Lib.hid (And.intro hxs hq)
                    have hq1 : q ≤ 100000 := by omega
                    clear hxs hq hlen hr0
                    go_wp2_with fail
                    go_region_held3 (fun w' => w'.cell? ⟨D, s, none⟩ = some (.slice A0 q c0)) (first | exact f3 | exact f4 | go_keep) (first | (go_at_call 19; refine row_wh HR.out.1.drew (by omega) _ (fun w5 A5 c5 hb5 hv5 _ => ?_); rw [rowL_at hlt, HX.out.1, HX.out.2] at hv5 ⊢; have f3 := (hb5.cell (p := ⟨D, s, none⟩) hDl).trans d0; have HI := Lib.hid (And.intro hv5 ((show IsRow wr.drew A0 q xs from HR0.out).below hb5).1); have HR5 := Lib.hid (And.intro (HR.out.1.drew.below hb5) ((HR.out.2.below (w' := wr.drew) ⟨rfl, rfl, rfl, Nat.le_refl _, fun _ _ => rfl⟩).below hb5)); clear hb5 hv5) | (go_at_call 21; refine ints_any HI.out.1 HI.out.2 (by unfold maxLen; omega) (by unfold maxLen; omega) _ (fun kk bb hbb => ?_); obtain rfl : bb = true := hbb.2 rfl; have f4 : (w5.drewN kk).cell? ⟨D, s, none⟩ = some (.slice A0 q c0) := f3; clear hbb))
                    have HF := Lib.hid (And.intro (HR5.out.1.drewN kk) (HR5.out.2.below (w' := w5.drewN kk) ⟨rfl, rfl, rfl, Nat.le_refl _, fun _ _ => rfl⟩))
                    go_wp2_with fail
                    go_roundg (64 - (s + 1))
                    case measure => have := HG.out; omega
                    case rel => exact ⟨s + 1, by omega, rfl, by go_num, HF⟩
                  · obtain rfl : s = 64 := by omega
                    have HB9 := Lib.hid HR.out.1.bel
                    clear HR HG
                    go_wp2_with fail
                    refine live_any _ fun w' hb' => ?_
                    have HF := Lib.hid (HB9.out.trans (hb'.mono HB9.out.size))
                    clear hb'
                    go_wp2_with fail
                    exact HQ.out _ HF.out
end Go.Proofs.Ytbhhbddmokddeaa
