/-
  RecentScripts, walked: in each round both sides come to the same ids.
-/
import Derived.Test.YtenfcppcnkfidaaRcD
import Derived.Test.YtenfcppcnkfidaaKitP
import Derived.Deep.RegionHeld3
import Derived.Deep.DeepCutAuto
import Derived.Deep.CutBlock
namespace Go.Proofs.Ytenfcppcnkfidaa
open Go.RowKit Go.Maps

/-- What Touch tells, and what it makes of the ids. -/
def te (id : Int) : Int := if id < 0 then 1 else 0
def tI (id : Int) (xs : List Int) : List Int := if id < 0 then xs else restI id xs ++ [id]

/-- Both sides: the Recent at S, the document's at K. -/
structure Both (w0 : World) (B : Nat) (w : World) (S R M K n : Nat) (xs : List Int) : Prop where
  st : ∃ ns, St w0 B w S R M n ns ∧ ids ns = xs
  doc : Doc w K B xs
  kb : B ≤ K

section
variable {w0 w : World} {B S R M K n : Nat} {xs : List Int}

theorem Both.nodup (h : Both w0 B w S R M K n xs) : xs.Nodup := by
  obtain ⟨⟨ns, h, rfl⟩, _, _⟩ := h
  exact h.re.ndi

theorem Both.le (h : Both w0 B w S R M K n xs) : xs.length ≤ n := by
  obtain ⟨⟨ns, h, rfl⟩, _, _⟩ := h
  obtain ⟨f, hf, _⟩ := h.re.map
  have := hf.size_le
  simpa [ids] using this

theorem Both.bel (h : Both w0 B w S R M K n xs) : Below B w0 w := by
  obtain ⟨⟨ns, h, _⟩, _, _⟩ := h
  exact h.bel

theorem Both.siz (h : Both w0 B w S R M K n xs) : B ≤ w.heap.size := by
  obtain ⟨⟨ns, h, _⟩, _, _⟩ := h
  exact h.siz

theorem Both.below (h : Both w0 B w S R M K n xs) {w' : World} (hb : Below w.heap.size w w') : Both w0 B w' S R M K n xs := by
  obtain ⟨⟨ns, hs, e⟩, hd, hk⟩ := h
  refine ⟨⟨ns, hs.below hb, e⟩, hd.only (F := fun _ => False) (Only.ofBelow hb) id fun _ _ _ _ => id, hk⟩

theorem Both.drewN (h : Both w0 B w S R M K n xs) (k : Nat) : Both w0 B (w.drewN k) S R M K n xs := h.below ⟨rfl, rfl, rfl, Nat.le_refl _, fun _ _ => rfl⟩
theorem Both.drew (h : Both w0 B w S R M K n xs) : Both w0 B w.drew S R M K n xs := h.drewN 1

theorem Doc.hasBlk (hd : Doc w K B xs) : HasBlk w K 28 := by
  obtain ⟨v, hb, _⟩ := hd
  exact ⟨_, hb⟩

/-- One side has turned, from St to St: the other one stands. -/
theorem Both.turn {ns : List (Nat × Int)} (hs : St w0 B w S R M n ns) (hd : Doc w K B (ids ns)) {w' : World} (ho : Only (Foot S R M ns) w w') {ys : List Int} (hy : ids ns = ys) : Doc w' K B ys := by
  subst hy
  exact hd.only ho (hs.re.foot_ne hd.hasBlk (by decide) (by decide)) fun k _ _ hk => hs.re.foot_ne hk (by decide) (by decide)

theorem St.keep {ns : List (Nat × Int)} (hs : St w0 B w S R M n ns) (hd : Doc w K B xs) (hk : B ≤ K) {w' : World} (ho : Only (fun k => k = K) w w') : St w0 B w' S R M n ns :=
  ⟨hs.re.only ho fun k hf e => hs.re.foot_ne (k := K) hd.hasBlk (by decide) (by decide) (e ▸ hf), hs.foot, hs.bel.trans (ho.below (fun i e => by omega) hs.siz), Nat.le_trans hs.siz ho.size⟩

/-- The Recent's side has turned already, the document's not yet. -/
structure Half (w0 : World) (B : Nat) (w : World) (S R M K n : Nat) (xs ys : List Int) : Prop where
  st : ∃ ns, St w0 B w S R M n ns ∧ ids ns = ys
  doc : Doc w K B xs
  kb : B ≤ K
  nd : xs.Nodup

theorem Half.bel {ys : List Int} (h : Half w0 B w S R M K n xs ys) : Below B w0 w := by
  obtain ⟨⟨ns, h, _⟩, _, _⟩ := h
  exact h.bel
theorem Half.siz {ys : List Int} (h : Half w0 B w S R M K n xs ys) : B ≤ w.heap.size := by
  obtain ⟨⟨ns, h, _⟩, _, _⟩ := h
  exact h.siz
theorem Half.below {ys : List Int} (h : Half w0 B w S R M K n xs ys) {w' : World} (hb : Below w.heap.size w w') : Half w0 B w' S R M K n xs ys := by
  obtain ⟨⟨ns, hs, e⟩, hd, hk, hn⟩ := h
  exact ⟨⟨ns, hs.below hb, e⟩, hd.only (F := fun _ => False) (Only.ofBelow hb) id fun _ _ _ _ => id, hk, hn⟩
theorem Half.drewN {ys : List Int} (h : Half w0 B w S R M K n xs ys) (k : Nat) : Half w0 B (w.drewN k) S R M K n xs ys := h.below ⟨rfl, rfl, rfl, Nat.le_refl _, fun _ _ => rfl⟩

theorem touch_half (h : Both w0 B w S R M K n xs) {id : Int} (hi : (Lit.int .i64 id).wf = true) (hn : n < 100000) (Q : Ending → World → Prop)
    (hQ : ∀ w', Half w0 B w' S R M K (n + 1) xs (tI id xs) → Q (.returned (.int .i64 (te id))) w') :
    Calls Try.prog 10 #[ptr S, .int .i64 id] w Q := by
  have hnd := h.nodup
  obtain ⟨⟨ns, hs, rfl⟩, hd, hk⟩ := h
  by_cases h0 : id < 0
  · refine touch_bad (.inr ⟨⟨S, rfl⟩, h0⟩) Q ?_
    have := hQ w
    rw [te, tI, if_pos h0, if_pos h0] at this
    exact this ⟨⟨ns, ⟨hs.re.mono (Nat.le_succ n), hs.foot, hs.bel, hs.siz⟩, rfl⟩, hd, hk, hnd⟩
  · refine touch_st hs hi (by omega) hn Q fun w' L ho hs' => ?_
    have := hQ w'
    rw [te, tI, if_neg h0, if_neg h0] at this
    refine this ⟨⟨_, hs', ?_⟩, Both.turn hs hd ho rfl, hk, hnd⟩
    rw [← ids_rest]
    simp [ids]

theorem dtouch_half {ys : List Int} {id : Int} (h : Half w0 B w S R M K n xs ys) (hy : ys = tI id xs) (hlen : xs.length ≤ 100000) (Q : Ending → World → Prop)
    (hQ : ∀ w', Both w0 B w' S R M K n ys → Q (.returned (.int .i64 (te id))) w') :
    Calls Try.prog 11 #[ptr K, .int .i64 id] w Q := by
  have hsz := h.siz
  obtain ⟨⟨ns, hs, e⟩, hd, hk, hnd⟩ := h
  by_cases h0 : id < 0
  · refine dtouch_bad h0 Q ?_
    rw [tI, if_pos h0] at hy
    subst hy
    have := hQ w ⟨⟨ns, hs, e⟩, hd, hk⟩
    rw [te, if_pos h0] at this
    exact this
  · refine dtouch_doc hd hnd (by omega) hlen hsz Q fun w' hd' ho => ?_
    rw [tI, if_neg h0] at hy
    subst hy
    have := hQ w' ⟨⟨ns, hs.keep hd hk ho, e⟩, hd', hk⟩
    rw [te, if_neg h0] at this
    exact this

theorem drop_half (h : Both w0 B w S R M K n xs) {id : Int} (hi : (Lit.int .i64 id).wf = true) (Q : Ending → World → Prop)
    (hQ : ∀ w', Half w0 B w' S R M K n xs (restI id xs) → Q (.returned (.bool (xs.any (· == id)))) w') :
    Calls Try.prog 12 #[ptr S, .int .i64 id] w Q := by
  have hnd := h.nodup
  obtain ⟨⟨ns, hs, rfl⟩, hd, hk⟩ := h
  refine drop_st hs hi Q fun w' ho hs' => ?_
  have := hQ w' ⟨⟨_, hs', ids_rest id ns⟩, Both.turn hs hd ho rfl, hk, hnd⟩
  have e : ((ids ns).any (· == id)) = ns.any (·.2 == id) := by unfold ids; rw [List.any_map]; rfl
  rw [e] at this
  exact this

theorem ddrop_half {ys : List Int} {id : Int} (h : Half w0 B w S R M K n xs ys) (hy : ys = restI id xs) (hlen : xs.length ≤ 100000) (Q : Ending → World → Prop)
    (hQ : ∀ w', Both w0 B w' S R M K n ys → Q (.returned (.bool (xs.any (· == id)))) w') :
    Calls Try.prog 13 #[ptr K, .int .i64 id] w Q := by
  have hsz := h.siz
  obtain ⟨⟨ns, hs, e⟩, hd, hk, hnd⟩ := h
  refine ddrop_doc hd hnd hlen hsz Q fun w' hd' ho => ?_
  subst hy
  exact hQ w' ⟨⟨ns, hs.keep hd hk ho, e⟩, hd', hk⟩
end

section
variable {w0 w : World} {B S R M K n : Nat} {xs : List Int}

theorem oldest_both (h : Both w0 B w S R M K n xs) (Q : Ending → World → Prop) (hQ : Both w0 B w.drew S R M K n xs → Q (.returned (.tuple #[.int .i64 (hd xs), .bool (more xs)])) w.drew) :
    Calls Try.prog 14 #[ptr S] w Q := by
  have h' := h.drew
  obtain ⟨⟨ns, hs, rfl⟩, _, _⟩ := h
  exact oldest_rec hs.re Q (hQ h')

theorem doldest_both (h : Both w0 B w S R M K n xs) (hlen : xs.length ≤ 100000) (Q : Ending → World → Prop) (hQ : Q (.returned (.tuple #[.int .i64 (hd xs), .bool (more xs)])) w) :
    Calls Try.prog 15 #[ptr K] w Q := doldest_doc h.doc hlen Q hQ

theorem newer_both (h : Both w0 B w S R M K n xs) {id : Int} (hi : (Lit.int .i64 id).wf = true) (Q : Ending → World → Prop)
    (hQ : ∀ w', Both w0 B w' S R M K n xs → Q (.returned (.tuple #[.int .i64 (hd (behindIds id xs)), .bool (more (behindIds id xs))])) w') :
    Calls Try.prog 16 #[ptr S, .int .i64 id] w Q := by
  have h' := fun m => h.drewN m
  obtain ⟨⟨ns, hs, rfl⟩, _, _⟩ := h
  exact newer_rec hs.re hi Q fun m => hQ _ (h' m)

theorem dnewer_both (h : Both w0 B w S R M K n xs) (hlen : xs.length ≤ 100000) {id : Int} (Q : Ending → World → Prop)
    (hQ : Q (.returned (.tuple #[.int .i64 (hd (behindIds id xs)), .bool (more (behindIds id xs))])) w) :
    Calls Try.prog 17 #[ptr K, .int .i64 id] w Q := dnewer_doc h.doc hlen Q hQ

theorem len_both (h : Both w0 B w S R M K n xs) (Q : Ending → World → Prop) (hQ : Q (.returned (.int .i64 (xs.length : Int))) w) :
    Calls Try.prog 18 #[ptr S] w Q := by
  obtain ⟨⟨ns, hs, rfl⟩, _, _⟩ := h
  refine len_rec hs.re Q ?_
  simpa [ids] using hQ

theorem order_both (h : Both w0 B w S R M K n xs) (hlen : xs.length ≤ 100000) (Q : Ending → World → Prop)
    (hQ : ∀ w' A c, Below w.heap.size w w' → w'.ownsRow B 3 1 (.slice A xs.length c) xs.length (vals xs) → Q (.returned (.slice A xs.length c)) w') :
    Calls Try.prog 20 #[ptr S] w Q := by
  obtain ⟨⟨ns, hs, rfl⟩, _, _⟩ := h
  have e : (ids ns).length = ns.length := by simp [ids]
  rw [e] at hlen hQ
  exact order_st hs hlen Q hQ

theorem Both.row (h : Both w0 B w S R M K n xs) : ∃ A c, w.cell? ⟨K, 0, none⟩ = some (.slice A xs.length c) ∧ K < w.heap.size ∧ IsInts w A xs.length xs := by
  obtain ⟨A, c, hb, hx, _⟩ := h.doc.open_
  exact ⟨A, c, hb.cell 0, hb.lt, hx⟩
end

theorem doc_new {w0 w : World} {B S R M n : Nat} (h : St w0 B w S R M n []) :
    Both w0 B (w.alloc (.cells #[.slice none 0 0] 28)) S R M w.heap.size n [] := by
  refine ⟨⟨[], h.below ((Below.refl _ w).alloc (Nat.le_refl _) _), rfl⟩, ⟨_, Blk.new w _ _, World.ownsRow_nil _ _ _ _⟩, h.siz⟩

/-- At the head of a round. -/
def Round (w : World) (S R M K : Nat) (k : Nat) (wr : World) : Prop := ∃ m xs, Both w w.heap.size wr S R M K m xs ∧ m ≤ k

set_option maxHeartbeats 1000000 in
set_option maxRecDepth 100000 in
theorem recentScripts_q {w : World} {A : Option Addr} {n c : Nat} {ps : List (Int × Int)} (hp : IsPairs w A n ps) (hn : n ≤ maxLen) (hwf : ∀ x ∈ ps, (Lit.int .i64 x.1).wf = true ∧ (Lit.int .i64 x.2).wf = true) (Q : Ending → World → Prop)
    (hQ : ∀ w', Below w.heap.size w w' → Q (.returned (.bool true)) w') :
    Calls Try.prog 3 #[.slice A n c] w Q := by
  have HQ := Lib.hid hQ
  have HP := Lib.hid hp
  have HW := Lib.hid hwf
  unfold maxLen at hn
  clear hQ hp hwf
  go_enter Try.func3, Try.ntmps3
  go_wp2_with fail
  refine new_st _ fun w1 S R M h1 => ?_
  by_cases hbig : 100 < n
  · have hb1 := h1.bel
    have hs1 := h1.siz
    clear h1
    go_wp2_with fail
    refine live_any _ fun w' hb => ?_
    go_wp2_with fail
    exact HQ.out _ ((hb1.alloc hs1 _).trans (hb.mono (by simp; omega)))
  have h2 := Lib.hid (doc_new h1)
  clear h1
  obtain ⟨K, hK⟩ : ∃ K, K = w1.heap.size := ⟨_, rfl⟩
  have HK := Lib.hid hK
  go_wp2_with fail
  rw [← hK]
  rw [← hK] at h2
  clear hK
  go_loopg [5] n (fun g i wr => ∃ k : Nat, k ≤ n ∧ g = n - k ∧ i = .int .i64 k ∧ Round w S R M K k wr)
  case atStart => exact ⟨0, Nat.zero_le _, rfl, rfl, _, _, h2.out, Nat.le_refl _⟩
  case round =>
    obtain ⟨k, hk, hg, rfl, m, xs, hb, hm⟩ := hrel
    have HG := Lib.hid hg
    clear hg h2
    by_cases hlt : k < n
    · obtain ⟨b, o, rfl, hbl, c0, c1⟩ := HP.out.at_ hlt
      have hwf := HW.out (ps.getD k (0, 0)) (by
        have := HP.out.1
        rw [List.getD_eq_getElem?_getD, List.getElem?_eq_getElem (by omega)]
        exact List.getElem_mem _)
      generalize ps.getD k (0, 0) = p at *
      obtain ⟨dop, id⟩ := p
      obtain ⟨_, hi⟩ := hwf
      dsimp only at *
      have d0 : wr.cell? ⟨b, o + k * 2, none⟩ = some (.int .i64 dop) := (hb.bel.cell (p := ⟨b, _, none⟩) hbl).trans c0
      have d1 : wr.cell? ⟨b, o + k * 2 + 1, none⟩ = some (.int .i64 id) := (hb.bel.cell (p := ⟨b, _, none⟩) hbl).trans c1
      have HB := Lib.hid hb
      clear hb
      go_upto_block 2 with fail
      go_cut [] (fun wc => Round w S R M K (k + 1) wc)
      case first =>
        have hm1 : m < 100000 := by omega
        have hl1 : xs.length ≤ 100000 := by have := HB.out.le; omega
        have c1 : ∀ w', Below w.heap.size w w' → w'.cell? ⟨b, o + k * 2 + 1, none⟩ = some (.int .i64 id) := fun w' h => (h.cell (p := ⟨b, _, none⟩) hbl).trans c1
        have C1 := Lib.hid c1
        clear c1
        by_cases e0 : dop = 0
        · subst e0
          go_wp2_with fail
          go_region_held3 (fun w' => w'.cell? ⟨b, o + k * 2 + 1, none⟩ = some (.int .i64 id)) (first | exact f2 | exact f3 | go_keep) (first | (go_at_call 10; refine touch_half HB.out.drew hi hm1 _ (fun w2 h2 => ?_); have f2 := C1.out w2 h2.bel; have H2 := Lib.hid h2; clear h2) | (go_at_call 11; refine dtouch_half H2.out rfl hl1 _ (fun w3 h3 => ?_); have f3 := C1.out w3 h3.bel; have H3 := Lib.hid h3; clear h3))
          go_wp2_with fail
          go_meet
          exact ⟨m + 1, _, H3.out, by omega⟩
        by_cases e1 : dop = 1
        · subst e1
          go_wp2_with fail
          go_region_held3 (fun w' => w'.cell? ⟨b, o + k * 2 + 1, none⟩ = some (.int .i64 id)) (first | exact f2 | exact f3 | go_keep) (first | (go_at_call 12; refine drop_half HB.out.drew hi _ (fun w2 h2 => ?_); have f2 := C1.out w2 h2.bel; have H2 := Lib.hid h2; clear h2) | (go_at_call 13; refine ddrop_half H2.out rfl hl1 _ (fun w3 h3 => ?_); have f3 := C1.out w3 h3.bel; have H3 := Lib.hid h3; clear h3))
          go_wp2_with fail
          go_meet
          exact ⟨m, _, H3.out, by omega⟩
        have t0 : (dop == 0) = false := by simpa using e0
        have t1 : (dop == 1) = false := by simpa using e1
        by_cases e2 : dop = 2
        · subst e2
          go_wp2_with fail
          refine oldest_both HB.out _ fun h2 => ?_
          have H2 := Lib.hid h2
          clear h2
          go_wp2_with fail
          refine doldest_both H2.out hl1 _ ?_
          go_wp2_with fail
          go_meet
          exact ⟨m, _, H2.out, by omega⟩
        have t2 : (dop == 2) = false := by simpa using e2
        by_cases e3 : dop = 3
        · subst e3
          go_wp2_with fail
          refine newer_both HB.out hi _ fun w2 h2 => ?_
          have f2 := C1.out w2 h2.bel
          have H2 := Lib.hid h2
          clear h2
          go_wp2_with fail
          refine dnewer_both H2.out hl1 _ ?_
          go_wp2_with fail
          go_meet
          exact ⟨m, _, H2.out, by omega⟩
        have t3 : (dop == 3) = false := by simpa using e3
        clear e0 e1 e2 e3
        go_wp2_with fail
        go_meet
        exact ⟨m, _, HB.out, by omega⟩
      case rest =>
        obtain ⟨m2, ys, hb2, hm2⟩ := hcut
        have hl2 : ys.length ≤ 100000 := by have := hb2.le; omega
        obtain ⟨AK, cK, k0, hKl, hv⟩ := hb2.row
        have HB2 := Lib.hid hb2
        have HV := Lib.hid hv
        clear hb2 hv d0 d1 c0 c1
        generalize hq : ys.length = q at *
        have HQQ := Lib.hid hq
        clear hq
        go_wp2_with fail
        go_region_held3 (fun w' => w'.cell? ⟨K, 0, none⟩ = some (.slice AK q cK)) (first | exact f3 | exact f4 | go_keep) (first | (go_at_call 18; refine len_both HB2.out.drew _ ?_; rw [HQQ.out]) | (go_at_call 20; refine order_both HB2.out.drew (by rw [HQQ.out]; exact hl2) _ (fun w3 A3 c3 hb3 ho3 => ?_); rw [HQQ.out] at ho3 ⊢; have f3 := (hb3.cell (p := ⟨K, 0, none⟩) hKl).trans k0; have H3 := Lib.hid (And.intro (And.intro hb3 ho3) (HV.out.drew.below hb3)); clear hb3 ho3) | (go_at_call 19; refine ints_any (ints_own H3.out.1.2) (H3.out.2) (by unfold maxLen; omega) (by unfold maxLen; omega) _ (fun kk bb hbb => ?_); obtain rfl : bb = true := hbb.2 rfl; have f4 : (w3.drewN kk).cell? ⟨K, 0, none⟩ = some (.slice AK q cK) := f3; clear hbb))
        have HF := Lib.hid ((HB2.out.drew.below H3.out.1.1).drewN kk)
        go_wp2_with fail
        go_roundg (n - (k + 1))
        case measure => have := HG.out; omega
        case rel => exact ⟨k + 1, by omega, rfl, by go_num, m2, ys, HF.out, hm2⟩
    · have e : k = n := by omega
      subst e
      have HB := Lib.hid (And.intro hb.bel hb.siz)
      clear hb
      go_wp2_with fail
      refine live_any _ fun w' hb' => ?_
      have hfin := HB.out.1.trans (hb'.mono HB.out.2)
      go_wp2_with fail
      exact HQ.out _ hfin

theorem RecentScripts_walk (a0 : Option Addr) (len0 cap0 : Nat) (z0 : List (Int × Int)) (w : World) (i0 : IsPairs w a0 len0 z0) (m0 : len0 ≤ maxLen) (w0 : ∀ x ∈ z0, (Lit.int .i64 x.1).wf = true ∧ (Lit.int .i64 x.2).wf = true) :
    Calls Try.prog 3 #[.slice a0 len0 cap0] w fun e w' => e = .returned (.bool true) ∧ Below w.heap.size w w' :=
  recentScripts_q i0 m0 w0 _ fun _ hb => ⟨rfl, hb⟩
end Go.Proofs.Ytenfcppcnkfidaa
