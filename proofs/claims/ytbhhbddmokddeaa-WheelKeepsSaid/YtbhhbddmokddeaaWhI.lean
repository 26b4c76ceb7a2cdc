/-
  The laws' 'live'; the law WheelNil.
-/
import Derived.Test.YtbhhbddmokddeaaWhH
namespace Go.Proofs.Ytbhhbddmokddeaa
open Go.RowKit Go.Maps

theorem vals_at {w : World} {g : Nat} (hg : g = w.heap.size) (cs : Array Value) (e : TypeId) : IsVals (w.alloc (.cells cs e)) (some ⟨g, 0, none⟩) cs.size cs.toList := by
  subst hg; exact vals_new w cs e

/-- A wheel made since w0. -/
structure Mine (w0 w : World) (S M K n : Nat) (rows : Nat → List Nd) : Prop where
  st : Whl w S M K n rows (maskOf rows)
  bel : Below w0.heap.size w0 w
  new : ∀ k, Foot S M K rows k → w0.heap.size ≤ k

theorem Mine.step {w0 w w' : World} {S M K K' n n' : Nat} {rows rows' : Nat → List Nd} (h : Mine w0 w S M K n rows) (h' : Whl w' S M K' n' rows' (maskOf rows')) (ho : Only (Foot S M K rows) w w') (hk : K' = K ∨ w.heap.size ≤ K') (hsub : ∀ t, t < 64 → ∀ p ∈ rows' t, p.1 < w.heap.size → ∃ s, s < 64 ∧ ∃ q ∈ rows s, q.1 = p.1) : Mine w0 w' S M K' n' rows' := by
  refine ⟨h', h.bel.trans (ho.below h.new h.bel.size), ?_⟩
  have hz := h.bel.size
  rintro k (rfl | rfl | rfl | ⟨t, ht, p, hp, rfl⟩)
  · exact h.new _ (.inl rfl)
  · exact h.new _ (.inr (.inl rfl))
  · rcases hk with e | e
    · exact h.new _ (.inr (.inr (.inl e)))
    · omega
  · by_cases hl : p.1 < w.heap.size
    · obtain ⟨s, hs, q, hq, e⟩ := hsub t ht p hp hl
      exact h.new _ (.inr (.inr (.inr ⟨s, hs, q, hq, e.symm⟩)))
    · omega

theorem Mine.below {w0 w w' : World} {S M K n : Nat} {rows : Nat → List Nd} (h : Mine w0 w S M K n rows) (hb : Below w.heap.size w w') : Mine w0 w' S M K n rows := ⟨h.st.below hb, h.bel.trans (hb.mono h.bel.size), h.new⟩

theorem Mine.congr {w0 w : World} {S M K n : Nat} {rows rows' : Nat → List Nd} (h : Mine w0 w S M K n rows) (e : ∀ t, t < 64 → rows' t = rows t) : Mine w0 w S M K n rows' :=
  ⟨by rw [maskOf_congr e]; exact h.st.congr e, h.bel, fun k hk => h.new k (by
    rcases hk with rfl | rfl | rfl | ⟨t, ht, p, hp, rfl⟩
    · exact .inl rfl
    · exact .inr (.inl rfl)
    · exact .inr (.inr (.inl rfl))
    · exact .inr (.inr (.inr ⟨t, ht, p, by rw [← e t ht]; exact hp, rfl⟩)))⟩

/-! each method, on a wheel of one's own -/

theorem new_mine {w0 : World} (Q : Ending → World → Prop) (hQ : ∀ w' S M K, Mine w0 w' S M K 0 (fun _ => []) → Q (.returned (ptr S)) w') :
    Calls Try.prog 8 #[] w0 Q :=
  new_any Q fun w' S M K h hb hf => hQ w' S M K ⟨h, hb, hf⟩

theorem add_mine {w0 w : World} {S M K n s : Nat} {id si : Int} {rows : Nat → List Nd} (h : Mine w0 w S M K n rows) (hsi : si = (s : Int)) (hs : s < 64) (hid0 : 0 ≤ id) (hid1 : id ≤ 1048575) (hn : n < 100000) (Q : Ending → World → Prop)
    (hQ : ∀ w' K' g, Mine w0 w' S M K' (n + 1) (upd (without rows id) s (without rows id s ++ [(g, id)])) → Only (Foot S M K rows) w w' → Q (.returned (.int .i64 0)) w') :
    Calls Try.prog 15 #[ptr S, .int .i64 si, .int .i64 id] w Q := by
  subst hsi
  refine add_ok h.st hs hid0 hid1 hn Q fun w' K' g h' ho hk hg => hQ w' K' g (h.step h' ho hk fun t ht p hp hl => ?_) ho
  have : p ∈ rows t := by
    unfold upd at hp
    split at hp
    · rename_i e; subst e
      rcases List.mem_append.1 hp with hp | hp
      · exact (List.mem_filter.1 hp).1
      · obtain rfl : p = (g, id) := by simpa using hp
        exact absurd hl (by omega)
    · exact (List.mem_filter.1 hp).1
  exact ⟨t, ht, p, this, rfl⟩

theorem drop_mine {w0 w : World} {S M K n : Nat} {id : Int} {rows : Nat → List Nd} (h : Mine w0 w S M K n rows) (hi : (Lit.int .i64 id).wf = true) (Q : Ending → World → Prop)
    (hQ : ∀ w' K', Mine w0 w' S M K' n (without rows id) → Only (Foot S M K rows) w w' → Q (.returned (.bool (hasId rows id))) w') :
    Calls Try.prog 16 #[ptr S, .int .i64 id] w Q :=
  drop_any h.st hi Q fun w' K' h' ho hk => hQ w' K' (h.step h' ho hk fun t ht p hp _ => ⟨t, ht, p, (List.mem_filter.1 hp).1, rfl⟩) ho

theorem empty_mine {w0 w : World} {S M K n s : Nat} {si : Int} {rows : Nat → List Nd} (h : Mine w0 w S M K n rows) (hsi : si = (s : Int)) (hs : s < 64) (hl : (rows s).length ≤ 100000) (Q : Ending → World → Prop)
    (hQ : ∀ w' K' A' c', Mine w0 w' S M K' n (upd rows s []) → IsInts w' A' (rows s).length (ids (rows s)) → (0 < (rows s).length → ∀ b o, A' = some ⟨b, o, none⟩ → HasBlk w' b 3) → Only (Foot S M K rows) w w' → Q (.returned (.slice A' (rows s).length c')) w') :
    Calls Try.prog 17 #[ptr S, .int .i64 si] w Q := by
  subst hsi
  refine empty_ok h.st hs hl Q fun w' K' A' c' h' hv hvb ho hk => hQ w' K' A' c' (h.step h' ho hk fun t ht p hp _ => ?_) hv hvb ho
  unfold upd at hp
  split at hp
  · exact absurd hp List.not_mem_nil
  · exact ⟨t, ht, p, hp, rfl⟩

theorem row_mine {w0 w : World} {S M K n s : Nat} {si : Int} {rows : Nat → List Nd} (h : Mine w0 w S M K n rows) (hsi : si = (s : Int)) (hs : s < 64) (hl : (rows s).length ≤ 100000) (Q : Ending → World → Prop)
    (hQ : ∀ w' A' c', w'.ownsRow w.heap.size 3 1 (.slice A' (rows s).length c') (rows s).length (ivals (ids (rows s))) → Mine w0 w' S M K n rows → Below w.heap.size w w' → Q (.returned (.slice A' (rows s).length c')) w') :
    Calls Try.prog 19 #[ptr S, .int .i64 si] w Q := by
  subst hsi
  exact row_ok h.st hs hl Q fun w' A' c' ho hb => hQ w' A' c' ho (h.below hb) hb

def R (s : Nat) (l : List Nd) : Nat → List Nd := upd (fun _ => []) s l

theorem lv1 (g : Nat) : ∀ t, t < 64 → R 3 [(g, 5)] t = upd (without (fun _ => []) 5) 3 (without (fun _ => []) 5 3 ++ [(g, 5)]) t := by
  intro t _; rfl
theorem lv2 (g1 g : Nat) : ∀ t, t < 64 → R 9 [(g, 5)] t = upd (without (R 3 [(g1, 5)]) 5) 9 (without (R 3 [(g1, 5)]) 5 9 ++ [(g, 5)]) t := by
  intro t _
  unfold R upd without
  by_cases h9 : t = 9
  · simp [h9]
  · by_cases h3 : t = 3
    · subst h3; simp
    · simp [h9, h3]
theorem lv3 (g2 g : Nat) : ∀ t, t < 64 → R 9 [(g2, 5), (g, 2)] t = upd (without (R 9 [(g2, 5)]) 2) 9 (without (R 9 [(g2, 5)]) 2 9 ++ [(g, 2)]) t := by
  intro t _
  unfold R upd without
  by_cases h9 : t = 9
  · subst h9; simp
  · simp [h9]
theorem lv4 (g2 g : Nat) : ∀ t, t < 64 → R 9 [(g, 2)] t = without (R 9 [(g2, 5), (g, 2)]) 5 t := by
  intro t _
  unfold R upd without
  by_cases h9 : t = 9
  · subst h9; simp
  · simp [h9]
theorem lv5 (g : Nat) : ∀ t, t < 64 → R 9 [(g, 2)] t = without (R 9 [(g, 2)]) 5 t := by
  intro t _
  unfold R upd without
  by_cases h9 : t = 9
  · subst h9; simp
  · simp [h9]
theorem lv6 (g : Nat) : ∀ t, t < 64 → (fun _ => []) t = upd (R 9 [(g, 2)]) 9 [] t := by
  intro t _
  unfold R upd
  by_cases h9 : t = 9 <;> simp [h9]
theorem lvm (g2 g3 : Nat) : maskOf (R 9 [(g2, 5), (g3, 2)]) = 512 := by kernel_rfl
theorem lvm0 : maskOf (fun _ => []) = 0 := by kernel_rfl
theorem lvt0 : tot (fun _ => []) = 0 := by kernel_rfl
theorem lvh (g2 g3 : Nat) : hasId (R 9 [(g2, 5), (g3, 2)]) 5 = true := by kernel_rfl
theorem lvh2 (g3 : Nat) : hasId (R 9 [(g3, 2)]) 5 = false := by kernel_rfl
theorem lvn1 : nextB [512] 4 = some 9 := by kernel_rfl
theorem lvn2 : nextB [512] 10 = none := by kernel_rfl

set_option maxRecDepth 100000 in
set_option maxHeartbeats 3200000 in
theorem live_any {w : World} (Q : Ending → World → Prop) (hQ : ∀ w', Below w.heap.size w w' → Q (.returned (.bool true)) w') :
    Calls Try.prog 9 #[] w Q := by
  have HQ := Lib.hid hQ
  clear hQ
  go_enter Try.func9, Try.ntmps9
  go_wp2_with fail
  refine new_mine _ fun w1 S M K1 h1 => ?_
  have H1 := Lib.hid h1
  clear h1
  go_wp2_with fail
  refine add_mine H1.out (s := 3) (by rfl) (by decide) (by decide) (by decide) (by decide) _ fun w2 K2 g1 h2 _ => ?_
  have H2 := Lib.hid (h2.congr (lv1 g1))
  clear h2
  go_wp2_with fail
  refine add_mine H2.out (s := 9) (by rfl) (by decide) (by decide) (by decide) (by decide) _ fun w3 K3 g2 h3 _ => ?_
  have H3 := Lib.hid (h3.congr (lv2 g1 g2))
  clear h3
  go_wp2_with fail
  refine add_mine H3.out (s := 9) (by rfl) (by decide) (by decide) (by decide) (by decide) _ fun w4 K4 g3 h4 _ => ?_
  have H4 := Lib.hid (h4.congr (lv3 g2 g3))
  clear h4
  go_wp2_with fail
  refine add_bad (by decide) _ ?_
  go_wp2_with fail
  refine where_in (s := 9) (L := g2) H4.out.st (by decide) (by unfold R; rw [upd_same]; simp) _ ?_
  go_wp2_with fail
  have hst := H4.out.st
  rw [lvm] at hst
  have HST := Lib.hid hst
  clear hst
  refine wnext_any HST.out 4 (by decide) _ ?_
  rw [show nextB [512] (4 : Int).toNat = some 9 from lvn1]
  unfold nv
  go_wp2_with fail
  refine wnext_any HST.out 10 (by decide) _ ?_
  rw [show nextB [512] (10 : Int).toNat = none from lvn2]
  unfold nv
  go_wp2_with fail
  refine row_mine H4.out (s := 9) (by rfl) (by decide) (show 2 ≤ 100000 by decide) _ fun w5 A5 c5 ho5 h5 hb5 => ?_
  obtain ⟨g, rfl, _, hrow⟩ := rowIs_of_own (n := 2) ho5 (by decide)
  have H5 := Lib.hid (And.intro h5 (show RowIs w5 g 3 2 (ivals [5, 2]) from hrow))
  clear ho5 h5 hb5 hrow HST
  go_wp2_with fail
  refine mask_any (mv := 512) (by have := H5.out.1.st; rwa [lvm] at this) _ ?_
  go_wp2_with fail
  refine drop_mine H5.out.1 (by decide) _ fun w6 K6 h6 ho6 => ?_
  rw [lvh]
  have H6 := Lib.hid (And.intro (h6.congr (lv4 g2 g3)) (RowIs.only H5.out.2 ho6 (H5.out.1.st.other H5.out.2.hasBlk (by decide) (by decide) (by decide))))
  clear h6 ho6
  go_wp2_with fail
  refine drop_mine H6.out.1 (by decide) _ fun w7 K7 h7 ho7 => ?_
  rw [lvh2]
  have H7 := Lib.hid (And.intro (h7.congr (lv5 g3)) (RowIs.only H6.out.2 ho7 (H6.out.1.st.other H6.out.2.hasBlk (by decide) (by decide) (by decide))))
  clear h7 ho7
  go_wp2_with fail
  refine empty_mine H7.out.1 (s := 9) (by rfl) (by decide) (show 1 ≤ 100000 by decide) _ fun w8 K8 A8 c8 h8 hv8 _ ho8 => ?_
  have H8 := Lib.hid (And.intro (h8.congr (lv6 g3)) (And.intro (show IsInts w8 A8 1 [2] from hv8) (RowIs.only H7.out.2 ho8 (H7.out.1.st.other H7.out.2.hasBlk (by decide) (by decide) (by decide))).vals))
  clear h8 ho8 hv8
  go_wp2_with fail
  refine ints_any (xs := [5, 2]) (ys := [5, 2]) (IsVals.alloc H8.out.2.2 _) (vals_new w8 #[.int .i64 5, .int .i64 2] 3) (by simp [maxLen]) (by decide) _ fun k b hb => ?_
  obtain rfl : b = true := hb.2 rfl
  have hb9 : Below w8.heap.size w8 ((w8.alloc (.cells #[.int .i64 5, .int .i64 2] 3)).drewN k) := ((Below.refl _ w8).alloc (Nat.le_refl _) _).trans ⟨rfl, rfl, rfl, Nat.le_refl _, fun _ _ => rfl⟩
  generalize hw9 : (w8.alloc (.cells #[.int .i64 5, .int .i64 2] 3)).drewN k = w9 at *
  have H9 := Lib.hid (And.intro (H8.out.1.below hb9) (H8.out.2.1.below hb9))
  clear hb hb9 hw9
  go_wp2_with fail
  refine ints_any (xs := [2]) (ys := [2]) (IsVals.alloc H9.out.2 _) (vals_new w9 #[.int .i64 2] 3) (by simp [maxLen]) (by decide) _ fun k2 b2 hb2 => ?_
  obtain rfl : b2 = true := hb2.2 rfl
  have hb10 : Below w9.heap.size w9 ((w9.alloc (.cells #[.int .i64 2] 3)).drewN k2) := ((Below.refl _ w9).alloc (Nat.le_refl _) _).trans ⟨rfl, rfl, rfl, Nat.le_refl _, fun _ _ => rfl⟩
  generalize hw10 : (w9.alloc (.cells #[.int .i64 2] 3)).drewN k2 = w10 at *
  have H10 := Lib.hid (H9.out.1.below hb10)
  clear hb2 hb10 hw10
  go_wp2_with fail
  refine len_any H10.out.st _ ?_
  rw [lvt0]
  go_wp2_with fail
  refine mask_any (mv := 0) (by have := H10.out.st; rwa [lvm0] at this) _ ?_
  go_wp2_with fail
  exact HQ.out _ H10.out.bel

set_option maxHeartbeats 800000 in
theorem WheelNil_walk (s : Int) (_ : (Lit.int .i64 s).wf = true) (id : Int) (_ : (Lit.int .i64 id).wf = true) (W : World) (Q : Ending → World → Prop) (hQ : ∀ w', Below W.heap.size W w' → Q (.returned (.bool true)) w') :
    Calls Try.prog 6 #[.int .i64 s, .int .i64 id] W Q := by
  have HQ := Lib.hid hQ
  clear hQ
  go_enter Try.func6, Try.ntmps6
  go_wp2_with fail
  refine where_nil _ ?_
  go_wp2_with fail
  refine next_nil _ ?_
  go_wp2_with fail
  refine add_nil _ ?_
  go_wp2_with fail
  refine drop_nil _ ?_
  go_wp2_with fail
  refine row_nil _ ?_
  go_wp2_with fail
  refine empty_nil _ ?_
  go_wp2_with fail
  refine mask_nil _ ?_
  go_wp2_with fail
  refine len_nil _ ?_
  go_wp2_with fail
  refine live_any _ fun w' hb' => ?_
  have HB' := Lib.hid hb'
  clear hb'
  go_wp2_with fail
  exact HQ.out _ HB'.out
end Go.Proofs.Ytbhhbddmokddeaa
