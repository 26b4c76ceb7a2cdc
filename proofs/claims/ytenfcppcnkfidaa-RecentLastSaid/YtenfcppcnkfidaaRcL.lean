/-
  RecentLast, walked.
-/
import Derived.Test.YtenfcppcnkfidaaRcT
namespace Go.Proofs.Ytenfcppcnkfidaa
open Go.RowKit Go.Maps

/-- Behind k touches: the map F (of sz entries) tells of each id in order when it was touched last, rising. -/
def LastInv (k : Nat) (xs : List Int) (F : Int → Option Value) (sz : Nat) : Prop :=
  sz = xs.length ∧ ∃ g : Int → Int, (∀ x ∈ xs, F x = some (.int .i64 (g x)) ∧ 0 ≤ g x ∧ g x < k) ∧ (∀ x, x ∉ xs → F x = none) ∧ xs.Pairwise (fun a b => g a < g b)

theorem LastInv.skip {k : Nat} {xs : List Int} {F : Int → Option Value} {sz : Nat} (h : LastInv k xs F sz) : LastInv (k + 1) xs F sz := by
  obtain ⟨h0, g, h1, h2, h3⟩ := h
  exact ⟨h0, g, fun x hx => ⟨(h1 x hx).1, (h1 x hx).2.1, by have := (h1 x hx).2.2; omega⟩, h2, h3⟩

theorem mem_restI {id x : Int} {xs : List Int} : x ∈ restI id xs ↔ x ∈ xs ∧ x ≠ id := by
  unfold restI
  simp

theorem LastInv.step {k : Nat} {xs : List Int} {F : Int → Option Value} {sz : Nat} (h : LastInv k xs F sz) (hnd : xs.Nodup) (id : Int) :
    LastInv (k + 1) (restI id xs ++ [id]) (fun j => if j = id then some (.int .i64 (k : Int)) else F j) (if (F id).isSome then sz else sz + 1) := by
  obtain ⟨rfl, g, h1, h2, h3⟩ := h
  refine ⟨?_, fun x => if x = id then (k : Int) else g x, fun x hx => ?_, fun x hx => ?_, ?_⟩
  · by_cases hm : id ∈ xs
    · rw [(h1 id hm).1]
      obtain ⟨ps, bs, rfl⟩ := List.append_of_mem hm
      have e1 : id ∉ ps := fun hh => by
        rw [List.nodup_append] at hnd
        exact hnd.2.2 id hh id (by simp) rfl
      have e2 : id ∉ bs := fun hh => by
        rw [List.nodup_append] at hnd
        exact (List.nodup_cons.1 hnd.2.1).1 hh
      rw [restI_mid e1 e2]
      simp
    · rw [h2 id hm, restI_out hm]
      simp
  · by_cases hx' : x = id
    · simp only [hx', if_true]
      exact ⟨trivial, by omega, by omega⟩
    · simp only [if_neg hx']
      have hm : x ∈ xs := by
        rcases List.mem_append.1 hx with hx | hx
        · exact (mem_restI.1 hx).1
        · exact absurd (by simpa using hx) hx'
      have := h1 x hm
      exact ⟨this.1, this.2.1, by omega⟩
  · have hx' : x ≠ id := fun e => hx (by simp [e])
    simp only [if_neg hx']
    exact h2 x fun hm => hx (List.mem_append_left _ (mem_restI.2 ⟨hm, hx'⟩))
  · rw [List.pairwise_append]
    refine ⟨?_, by simp, fun a ha b hb => ?_⟩
    · have : (restI id xs).Pairwise (fun a b => g a < g b) := List.Pairwise.sublist List.filter_sublist h3
      refine List.Pairwise.imp_of_mem (fun {a b} ha hb hab => ?_) this
      show (if a = id then (k : Int) else g a) < (if b = id then (k : Int) else g b)
      rw [if_neg (mem_restI.1 ha).2, if_neg (mem_restI.1 hb).2]
      exact hab
    · obtain rfl : b = id := by simpa using hb
      show (if a = b then (k : Int) else g a) < (if b = b then (k : Int) else g b)
      rw [if_neg (mem_restI.1 ha).2, if_pos rfl]
      exact (h1 a (mem_restI.1 ha).1).2.2

theorem zeroInt (w : World) : (zeroValue 3).run Try.prog w = .ok (.int .i64 0) w := by kernel_rfl

theorem Rec.foot_map {w : World} {S R M n X a b : Nat} {ns : List (Nat × Int)} {F : Int → Option Value} (h : Rec w S R M n ns) (hx : IMap Try.prog 3 w X a b F) (hM : X ≠ M) : ¬ Foot S R M ns X := by
  rintro (rfl | rfl | hm)
  · obtain ⟨cs, hs⟩ := h.sblk
    exact hx.ne_blk hs rfl
  · exact hM rfl
  · obtain ⟨cs, hs⟩ := h.blk X hm
    exact hx.ne_blk hs rfl

set_option maxRecDepth 100000 in
set_option maxHeartbeats 1000000 in
theorem recentLast_q {w : World} {A : Option Addr} {n c : Nat} {zs : List Int} (hp : IsInts w A n zs) (hn : n ≤ maxLen) (hwf : ∀ x ∈ zs, (Lit.int .i64 x).wf = true) (Q : Ending → World → Prop)
    (hQ : ∀ w', Below w.heap.size w w' → Q (.returned (.bool true)) w') :
    Calls Try.prog 7 #[.slice A n c] w Q := by
  have hmm := @run_makeMap Try.prog
  have HQ := Lib.hid hQ
  have HP := Lib.hid hp
  have HW := Lib.hid hwf
  unfold maxLen at hn
  clear hQ hp hwf
  go_enter Try.func7, Try.ntmps7
  go_wp2_with fail
  refine new_st _ fun w1 S R M h1 => ?_
  by_cases hbig : 100 < n
  · have hb1 := Lib.hid h1.bel
    have hs1 := h1.siz
    clear h1
    go_wp2_with fail
    refine live_any _ fun w' hb => ?_
    go_wp2_with fail
    exact HQ.out _ (hb1.out.trans (hb.mono hs1))
  have H1 := Lib.hid h1
  obtain ⟨X, hX⟩ : ∃ X, w1.heap.size = X := ⟨_, rfl⟩
  have HM1 := Lib.hid (hX ▸ IMap.made Try.prog 3 w1)
  have hXM : X ≠ M := by
    obtain ⟨f, hf, _⟩ := h1.re.map
    have := hf.lt
    omega
  have hXB : w.heap.size ≤ X := by have := h1.siz; omega
  have HX := Lib.hid hX
  clear h1
  go_wp2_with fail
  clear hX
  go_loopg [5] n (fun g i wr => ∃ k : Nat, k ≤ n ∧ g = n - k ∧ i = .int .i64 k ∧ ∃ m ns F nn sz, St w w.heap.size wr S R M m ns ∧ m ≤ k ∧ IMap Try.prog 3 wr X nn sz F ∧ nn ≤ k ∧ LastInv k (ids ns) F sz)
  case atStart => exact ⟨0, Nat.zero_le _, rfl, rfl, _, _, _, _, _, H1.out.below ((Below.refl _ _).alloc (Nat.le_refl _) _), Nat.le_refl _, HM1.out, Nat.le_refl _, rfl, fun _ => 0, by simp [ids], fun _ _ => rfl, by simp [ids]⟩
  case round =>
    obtain ⟨k, hk, hg, rfl, m, ns, F, nn, sz, hb, hm, hx, hnn, hinv⟩ := hrel
    have HG := Lib.hid hg
    have HX1 := Lib.hid hx
    have HI := Lib.hid hinv
    clear hg H1 HM1 hx hinv
    by_cases hlt : k < n
    · obtain ⟨b, o, rfl, hbl, c0⟩ := HP.out.at_ hlt
      have hi : (Lit.int .i64 (zs.getD k 0)).wf = true := by
        have := HP.out.len
        refine HW.out _ ?_
        rw [List.getD_eq_getElem?_getD, List.getElem?_eq_getElem (by omega)]
        exact List.getElem_mem _
      generalize zs.getD k 0 = x at *
      have d0 : wr.cell? ⟨b, o + k, none⟩ = some (.int .i64 x) := (hb.bel.cell (p := ⟨b, _, none⟩) hbl).trans c0
      have hcell : ∀ w', Below w.heap.size w w' → w'.cell? ⟨b, o + k, none⟩ = some (.int .i64 x) := fun w' h => (h.cell (p := ⟨b, _, none⟩) hbl).trans c0
      have HC := Lib.hid hcell
      have HB := Lib.hid hb
      have hnd : (ids ns).Nodup := hb.re.ndi
      have HND := Lib.hid hnd
      clear hb hcell hnd c0
      by_cases hx0 : x < 0
      · have tq : te x = 1 := by rw [te, if_pos hx0]
        go_wp2_with fail
        refine touch_any HB.out hi (by omega) _ fun w2 ns2 o2 _ h2 e2 => ?_
        rw [tI, if_pos hx0] at e2
        have H2 := Lib.hid h2
        have E2 := Lib.hid e2
        have HX2 := Lib.hid (HX1.out.only o2 (HB.out.re.foot_map HX1.out hXM))
        clear h2 e2 o2
        go_wp2_with fail
        go_roundg (n - (k + 1))
        case measure => have := HG.out; omega
        case rel => exact ⟨k + 1, by omega, rfl, by go_num, _, _, _, _, _, H2.out, by omega, HX2.out, by omega, by rw [E2.out]; exact HI.out.skip⟩
      · have tq : te x = 0 := by rw [te, if_neg hx0]
        go_wp2_with fail
        refine touch_any HB.out hi (by omega) _ fun w2 ns2 o2 _ h2 e2 => ?_
        rw [tI, if_neg (by omega)] at e2
        have d2 := HC.out w2 h2.bel
        have H2 := Lib.hid h2
        have E2 := Lib.hid e2
        have HX2 := Lib.hid (HX1.out.only o2 (HB.out.re.foot_map HX1.out hXM))
        clear h2 e2 o2
        go_wp2_with (first
          | (at_mapUpdate; refine wpList_put _ rfl _ _ _ 43 rfl 3 3 Try.underlying3 Try.underlying43 X nn sz F rfl HX2.out (by unfold maxLen; omega) x _ rfl rfl hi ?_; intro w3 hm3 ht3; have M3 := Lib.hid hm3; have T3 := Lib.hid ht3; clear hm3 ht3))
        have H3 : Hid (St w w.heap.size w3 S R M (m + 1) ns2) := Lib.hid ⟨H2.out.re.only ((Only.refl (fun i => i = X) w2).turned T3.out (.inl rfl)) (fun i hi e => H2.out.re.foot_map HX2.out hXM (e ▸ hi)), H2.out.foot, H2.out.bel.grown T3.out.grown H2.out.siz (fun i e => by cases e; exact hXB), by rw [turned_size T3.out]; exact H2.out.siz⟩
        go_roundg (n - (k + 1))
        case measure => have := HG.out; omega
        case rel => exact ⟨k + 1, by omega, rfl, by go_num, _, _, _, _, _, H3.out, by omega, M3.out, by omega, by rw [E2.out]; exact HI.out.step HND.out x⟩
    · have ek : k = n := by omega
      subst ek
      have HB := Lib.hid hb
      clear hb
      go_wp2_with fail
      refine order_any HB.out rfl (by omega) _ fun w2 A2 c2 hb2 ho2 => ?_
      have H2 := Lib.hid (HB.out.below hb2)
      have HX2 := Lib.hid (HX1.out.only (F := fun _ => False) (Only.ofBelow hb2) id)
      obtain ⟨hsz, g, hg1, hg2, hg3⟩ := HI.out
      have hwfx : ∀ x ∈ ids ns, (Lit.int .i64 x).wf = true := fun x hx => by
        obtain ⟨p, hp, rfl⟩ := List.mem_map.1 hx
        exact HB.out.re.fits p hp
      have HV := Lib.hid (ints_own ho2)
      generalize ids ns = xs at *
      have HG1 := Lib.hid hg1
      have HG3 := Lib.hid hg3
      have HWX := Lib.hid hwfx
      have hl : xs.length ≤ 100 := by have := HX2.out.size_le; omega
      clear hb2 ho2 hg1 hg2 hg3 hwfx HB HX1 HI
      generalize hq : xs.length = q at *
      have HQL := Lib.hid hq
      have HSZ := Lib.hid hsz
      clear hq hsz
      go_wp2_with fail
      go_loopg [7] q (fun g i w5 => ∃ j : Nat, j ≤ q ∧ g = q - j ∧ i = .int .i64 j ∧ w5 = w2)
      case atStart => exact ⟨0, Nat.zero_le _, rfl, rfl, rfl⟩
      case round =>
        obtain ⟨j, hj, hg4, rfl, rfl⟩ := hrel
        have HG4 := Lib.hid hg4
        clear hg4
        by_cases hjq : j < q
        · obtain ⟨b4, o4, rfl, _, x0⟩ := HV.out.at_ hjq
          have hxm : xs.getD j 0 ∈ xs := by
            have := HQL.out
            rw [List.getD_eq_getElem?_getD, List.getElem?_eq_getElem (by omega)]
            exact List.getElem_mem _
          have hF := Lib.hid (HG1.out _ hxm).1
          have hiw := HWX.out _ hxm
          by_cases hj0 : j = 0
          · subst hj0
            generalize xs.getD 0 0 = x at *
            rw [Nat.add_zero] at x0
            clear hxm
            go_wp2_with (first
              | (at_lookup; refine wpList_look_hit _ rfl _ _ 43 rfl 3 3 Try.underlying3 Try.underlying43 (zeroInt _) X nn sz F rfl HX2.out x rfl hiw _ hF.out ?_))
            go_roundg (q - (0 + 1))
            case measure => have := HG4.out; omega
            case rel => exact ⟨0 + 1, by omega, rfl, by go_num, rfl⟩
          · obtain ⟨_, _, e, _, y0⟩ := HV.out.at_ (k := j - 1) (by omega)
            obtain ⟨rfl, rfl⟩ : b4 = _ ∧ o4 = _ := by simpa using e
            have hym : xs.getD (j - 1) 0 ∈ xs := by
              have := HQL.out
              rw [List.getD_eq_getElem?_getD, List.getElem?_eq_getElem (by omega)]
              exact List.getElem_mem _
            have hFy := Lib.hid (HG1.out _ hym).1
            have hiy := HWX.out _ hym
            have hlt' : g (xs.getD (j - 1) 0) < g (xs.getD j 0) := by
              have := HQL.out
              have h3 := List.pairwise_iff_getElem.1 HG3.out (j - 1) j (by omega) (by omega) (by omega)
              rw [List.getD_eq_getElem?_getD, List.getElem?_eq_getElem (by omega), List.getD_eq_getElem?_getD, List.getElem?_eq_getElem (by omega)]
              exact h3
            generalize xs.getD j 0 = x at *
            generalize xs.getD (j - 1) 0 = y at *
            generalize g x = gx at *
            generalize g y = gy at *
            clear hxm hym e
            go_wp2_with (first
              | (at_lookup; refine wpList_look_hit _ rfl _ _ 43 rfl 3 3 Try.underlying3 Try.underlying43 (zeroInt _) X nn sz F rfl HX2.out x rfl hiw _ hF.out ?_)
              | (at_lookup; refine wpList_look1 _ rfl _ _ 43 rfl 3 3 Try.underlying3 Try.underlying43 (zeroInt _) X nn sz F rfl HX2.out y rfl hiy _ hFy.out ?_))
            go_roundg (q - (j + 1))
            case measure => have := HG4.out; omega
            case rel => exact ⟨j + 1, by omega, rfl, by go_num, rfl⟩
        · have hbf := Lib.hid (And.intro H2.out.bel H2.out.siz)
          have tl : ((q : Int) == (sz : Int)) = true := by rw [HSZ.out]; simp
          go_wp2_with (first
            | (at_len; refine wpList_maplen _ rfl _ 43 rfl 3 3 Try.underlying43 X nn sz F rfl HX2.out ?_))
          refine live_any _ fun wf hbw => ?_
          have hfin := Lib.hid (hbf.out.1.trans (hbw.mono hbf.out.2))
          clear hbw
          go_wp2_with fail
          exact HQ.out _ hfin.out

theorem RecentLast_walk (a0 : Option Addr) (len0 cap0 : Nat) (z0 : List Int) (w : World) (i0 : IsVals w a0 len0 (z0.map (.int .i64))) (m0 : len0 ≤ maxLen) (w0 : ∀ x ∈ z0, (Lit.int .i64 x).wf = true) :
    Calls Try.prog 7 #[.slice a0 len0 cap0] w fun e w' => e = .returned (.bool true) ∧ Below w.heap.size w w' :=
  recentLast_q i0 m0 w0 _ fun _ hb => ⟨rfl, hb⟩
end Go.Proofs.Ytenfcppcnkfidaa
