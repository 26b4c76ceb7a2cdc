/-
  Add.
-/
import Derived.Test.YtbhhbddmokddeaaWhE
namespace Go.Proofs.Ytbhhbddmokddeaa
open Go.RowKit Go.Maps

def okA (s id : Int) : Bool := decide (0 ≤ s ∧ s < 64 ∧ 0 ≤ id ∧ id ≤ 1048575)

theorem add_nil {w : World} {s id : Int} (Q : Ending → World → Prop) (hQ : Q (.returned (.int .i64 1)) w) :
    Calls Try.prog 15 #[.pointer none, .int .i64 s, .int .i64 id] w Q := by
  have HQ := Lib.hid hQ
  clear hQ
  go_enter Try.func15, Try.ntmps15
  go_wp2_with fail
  refine may_nil _ ?_
  go_wp2_with fail
  exact HQ.out

theorem add_bad {w : World} {S : Nat} {s id : Int} (h : okA s id = false) (Q : Ending → World → Prop) (hQ : Q (.returned (.int .i64 1)) w) :
    Calls Try.prog 15 #[ptr S, .int .i64 s, .int .i64 id] w Q := by
  have HQ := Lib.hid hQ
  clear hQ
  simp only [okA, decide_eq_false_iff_not] at h
  have hc : mayB s = false ∨ (mayB s = true ∧ id < 0) ∨ (mayB s = true ∧ 0 ≤ id ∧ 1048575 < id) := by
    unfold mayB
    by_cases g : 0 ≤ s ∧ s < 64
    · rw [decide_eq_true g]
      right
      by_cases g2 : id < 0
      · exact .inl ⟨rfl, g2⟩
      · exact .inr ⟨rfl, by omega, by omega⟩
    · exact .inl (decide_eq_false g)
  rcases hc with hm | ⟨hm, h1⟩ | ⟨hm, h1, h2⟩
  all_goals
    have HM := Lib.hid hm
    clear hm h
    go_enter Try.func15, Try.ntmps15
    go_wp2_with fail
    refine may_any _ ?_
    rw [HM.out]
    go_wp2_with fail
    exact HQ.out

/-- What stands at the end of Add, once Drop has been. -/
theorem add_mid {w : World} {S M K n s : Nat} {id : Int} {rows : Nat → List Nd} {f : Int → Option Value} (h : Whl w S M K n rows (maskOf rows)) (hs : s < 64) (hid : ∀ t, t < 64 → ∀ p ∈ rows t, p.2 ≠ id) (hi : (Lit.int .i64 id).wf = true)
    (hf1 : ∀ s, s < 64 → ∀ p ∈ rows s, f p.2 = some (ptr p.1)) (hf2 : ∀ i, (∀ s, s < 64 → ∀ p ∈ rows s, p.2 ≠ i) → f i = none)
    {xb xo : Nat} {x0 y0 : Value} (ex : xAt S s (rows s) = (xb, xo)) (hxy : (⟨xb, xo, none⟩ : Addr) ≠ ⟨S, s * 2 + 1, none⟩) (fx : Foot S M K rows xb) (nKx : K ≠ xb) (cx : w.cell? ⟨xb, xo, none⟩ = some x0) (cy : w.cell? ⟨S, s * 2 + 1, none⟩ = some y0)
    (q : Nat) (w2 : World) (ht : (((w.setCell ⟨xb, xo, none⟩ (ptr w.heap.size)).setCell ⟨S, s * 2 + 1, none⟩ (ptr w.heap.size)).alloc (.cells #[.int .i64 id, .int .i64 (s : Int), lstOr (rows s) (.pointer none), .pointer none] 59)).drewN q |>.mapTurned w2 M)
    (hm2 : IMap Try.prog 3 w2 M (n + 1) (if (f id).isSome then tot rows else tot rows + 1) (fun j => if j = id then some (ptr w.heap.size) else f j)) :
    Whl w2 S M K (n + 1) (upd rows s (rows s ++ [(w.heap.size, id)])) (maskOf rows) ∧ Only (Foot S M K rows) w w2 := by
  have hg : ¬ Foot S M K rows w.heap.size := fun e => Nat.lt_irrefl _ (h.lt _ e)
  have esz : ((w.setCell ⟨xb, xo, none⟩ (ptr w.heap.size)).setCell ⟨S, s * 2 + 1, none⟩ (ptr w.heap.size)).heap.size = w.heap.size := by simp [World.setCell]
  have hbg := Blk.new ((w.setCell ⟨xb, xo, none⟩ (ptr w.heap.size)).setCell ⟨S, s * 2 + 1, none⟩ (ptr w.heap.size)) 59 #[.int .i64 id, .int .i64 (s : Int), lstOr (rows s) (.pointer none), .pointer none]
  rw [esz] at hbg
  have hb2 : Blk w2 w.heap.size 59 #[.int .i64 id, .int .i64 (s : Int), lstOr (rows s) (.pointer none), .pointer none] := (hbg.drewN q).grown ht.grown (fun e => hg (.inr (.inl (Option.some.inj e))))
  have hc : ∀ b o, b < w.heap.size → w2.cell? ⟨b, o, none⟩ = ((w.setCell ⟨xb, xo, none⟩ (ptr w.heap.size)).setCell ⟨S, s * 2 + 1, none⟩ (ptr w.heap.size)).cell? ⟨b, o, none⟩ := by
    intro b o hb
    rw [turned_cell ht]
    exact (((Below.refl _ _).alloc (Nat.le_refl _) _).cell (p := ⟨b, o, none⟩) (by rw [esz]; exact hb))
  have hSlt := h.lt S (.inl rfl)
  have hxlt := h.lt xb fx
  have hsz2 : w2.heap.size = w.heap.size + 1 := by rw [turned_size ht]; simp [World.setCell]
  have ho : Only (Foot S M K rows) w w2 := (((((Only.refl (Foot S M K rows) w).setCell (p := ⟨xb, xo, none⟩) (.inl fx) _).setCell (p := ⟨S, s * 2 + 1, none⟩) (.inl (.inl rfl)) _).alloc _).drewN q).turned ht (.inl (.inr (.inl rfl)))
  refine ⟨h.link hs hg hid hi (hb2.cell 0) (hb2.cell 1) (hb2.cell 2) (hb2.cell 3) ?_ ?_ ?_ (fun b t hb hne => ?_) ⟨_, hb2⟩ ?_ hf1 hf2 ?_, ho⟩
  · rw [ex]
    show w2.cell? ⟨xb, xo, none⟩ = _
    rw [hc _ _ hxlt, World.cell?_setCell_other _ _ _ _ hxy.symm]
    exact World.cell?_setCell_same _ _ _ cx
  · rw [hc _ _ hSlt]
    exact World.cell?_setCell_same _ _ _ ((World.cell?_setCell_other _ _ _ _ hxy).trans cy)
  · intro b o hne h1 h2
    by_cases hb : b < w.heap.size
    · rw [hc _ _ hb, World.cell?_setCell_other, World.cell?_setCell_other]
      · intro e; simp only [Addr.mk.injEq, and_true] at e; exact h1 (by rw [ex, e.1, e.2])
      · intro e; simp only [Addr.mk.injEq, and_true] at e; exact h2 (by rw [e.1, e.2])
    · have e1 : w.cell? ⟨b, o, none⟩ = none := by
        cases hh : w.cell? ⟨b, o, none⟩ with
        | none => rfl
        | some v => exact absurd (cell_lt hh) hb
      rw [e1]
      cases hh : w2.cell? ⟨b, o, none⟩ with
      | none => rfl
      | some v => have := cell_lt hh; omega
  · exact ((((hb.setCell _ _).setCell _ _).alloc _).drewN q).turned ht
  · exact RowIs.only ((h.row.only (F := fun k => k = xb ∨ k = S) ((((((Only.refl (fun k => k = xb ∨ k = S) w).setCell (p := ⟨xb, xo, none⟩) (.inl (.inl rfl)) _).setCell (p := ⟨S, s * 2 + 1, none⟩) (.inl (.inr rfl)) _).alloc _).drewN q)) (fun e => e.elim nKx (fun e => h.SK e.symm)))) (F := fun k => k = M) ((Only.refl (fun k => k = M) _).turned ht (.inl rfl)) h.MK
  · rw [hf2 id hid] at hm2
    exact hm2

set_option maxHeartbeats 1600000 in
theorem add_ok {w : World} {S M K n s : Nat} {id : Int} {rows : Nat → List Nd} (h : Whl w S M K n rows (maskOf rows)) (hs : s < 64) (hid0 : 0 ≤ id) (hid1 : id ≤ 1048575) (hn : n < 100000) (Q : Ending → World → Prop)
    (hQ : ∀ w' K' g, Whl w' S M K' (n + 1) (upd (without rows id) s (without rows id s ++ [(g, id)])) (maskOf (upd (without rows id) s (without rows id s ++ [(g, id)]))) → Only (Foot S M K rows) w w' → (K' = K ∨ w.heap.size ≤ K') → w.heap.size ≤ g → Q (.returned (.int .i64 0)) w') :
    Calls Try.prog 15 #[ptr S, .int .i64 (s : Int), .int .i64 id] w Q := by
  have hi : (Lit.int .i64 id).wf = true := by simp [Lit.wf, IntKind.min, IntKind.max, IntKind.signed, IntKind.bits]; omega
  have hm : mayB (s : Int) = true := by unfold mayB; rw [decide_eq_true_iff]; omega
  have HQ := Lib.hid hQ
  have HMY := Lib.hid hm
  have HH := Lib.hid h
  have hs0 : (0 : Int) ≤ (s : Int) := by omega
  have hs1 : (s : Int) < 64 := by omega
  clear hQ hm h
  go_enter Try.func15, Try.ntmps15
  go_wp2_with fail
  refine may_any _ ?_
  rw [HMY.out]
  go_wp2_with fail
  refine drop_any HH.out hi _ fun w1 K1 h1 ho1 hk1 => ?_
  generalize hasId rows id = bb
  have hid : ∀ t, t < 64 → ∀ p ∈ without rows id t, p.2 ≠ id := by
    intro t _ p hp
    have := (List.mem_filter.1 hp).2
    simpa using this
  have hsub : ∀ t, t < 64 → ∀ p ∈ without rows id t, p ∈ rows t := fun t _ p hp => (List.mem_filter.1 hp).1
  have HSUB := Lib.hid hsub
  have HO1 := Lib.hid (And.intro ho1 hk1)
  generalize hrw : without rows id = rows1 at *
  have HRW := Lib.hid hrw
  clear hrw hsub ho1 hk1
  have hxx : ∃ xb xo lv x0, xAt S s (rows1 s) = (xb, xo) ∧ lstOr (rows1 s) (.pointer none) = lv ∧ w1.cell? ⟨xb, xo, none⟩ = some x0 ∧ w1.frozen? ⟨xb, xo, none⟩ = false ∧ xb ≠ M ∧ K1 ≠ xb ∧ Foot S M K1 rows1 xb ∧ ((lv = .pointer none ∧ xb = S ∧ xo = s * 2) ∨ (lv = ptr xb ∧ xo = 3 ∧ xb ≠ S)) := by
    have hfst := h1.fst s hs
    have hsg := h1.seg s hs
    rcases List.eq_nil_or_concat (rows1 s) with e | ⟨a, q, e⟩
    · rw [e]; exact ⟨S, s * 2, .pointer none, _, rfl, rfl, hfst, h1.sblk.frozen _, h1.SM, h1.SK.symm, .inl rfl, .inl ⟨rfl, rfl, rfl⟩⟩
    · rw [List.concat_eq_append] at e
      have hq : q ∈ rows1 s := by rw [e]; simp
      rw [e, Seg.append] at hsg
      rw [e]
      exact ⟨q.1, 3, ptr q.1, _, xAt_last _ _ _ _, by rw [lstOr_append]; rfl, hsg.2.1.2.2.2, (h1.blk s hs q hq).frozen _, h1.pM hs hq, (h1.pK hs hq).symm, .inr (.inr (.inr ⟨s, hs, q, hq, rfl⟩)), .inr ⟨rfl, rfl, h1.pS hs hq⟩⟩
  obtain ⟨xb, xo, lv, x0, ex, elv, cx, fx, nMx, nKx, footx, hx⟩ := hxx
  have cy := h1.lst s hs
  have fy := h1.sblk.frozen (s * 2 + 1)
  rw [elv] at cy
  have hXY : (⟨xb, xo, none⟩ : Addr) ≠ ⟨S, s * 2 + 1, none⟩ := by
    simp only [ne_eq, Addr.mk.injEq, and_true, not_and]
    rcases hx with ⟨_, rfl, rfl⟩ | ⟨_, rfl, hx⟩
    · intro _; omega
    · intro e; exact absurd e hx
  have cyx : (w1.setCell ⟨xb, xo, none⟩ (ptr w1.heap.size)).cell? ⟨S, s * 2 + 1, none⟩ = some lv := (World.cell?_setCell_other _ _ _ _ hXY).trans cy
  have c1 := h1.mc
  have c1' : ((w1.setCell ⟨xb, xo, none⟩ (ptr w1.heap.size)).setCell ⟨S, s * 2 + 1, none⟩ (ptr w1.heap.size)).cell? ⟨S, 128, none⟩ = some (.map (some M)) := by
    rw [World.cell?_setCell_other, World.cell?_setCell_other]
    · exact c1
    · simp only [ne_eq, Addr.mk.injEq, and_true, not_and]; rcases hx with ⟨_, _, e⟩ | ⟨_, e, _⟩ <;> omega
    · simp only [ne_eq, Addr.mk.injEq, and_true, not_and]; omega
  obtain ⟨f, hm, hf1, hf2⟩ := h1.map
  have HM := Lib.hid (((hm.setCell (p := ⟨xb, xo, none⟩) nMx.symm (ptr w1.heap.size)).setCell (p := ⟨S, s * 2 + 1, none⟩) h1.SM.symm (ptr w1.heap.size)).alloc (.cells #[.int .i64 id, .int .i64 (s : Int), lv, .pointer none] 59))
  have HW2 := Lib.hid (add_mid h1 hs hid hi hf1 hf2 ex hXY footx nKx cx cy)
  rw [elv] at HW2
  have hSlt := h1.lt S (.inl rfl)
  have hxlt := h1.lt xb footx
  have HEND : Hid (∀ w2 w3 K' mv', Only (Foot S M K1 rows1) w1 w2 → Whl w3 S M K' (n + 1) (upd rows1 s (rows1 s ++ [(w1.heap.size, id)])) mv' → [mv'] = setF [maskOf rows1] s 1 (if (upd rows1 s (rows1 s ++ [(w1.heap.size, id)]) s).isEmpty then 0 else 1) → Only (fun k => k = S) w2 w3 → w2.heap.size ≤ K' → Q (.returned (.int .i64 0)) w3) := Lib.hid (by
    intro w2 w3 K' mv' ho h3 e3 o3 g3
    obtain rfl := mask_upd hs e3
    have hsz := HO1.out.1.size
    refine HQ.out w3 K' _ h3 ((HO1.out.1.trans (ho.trans' (o3.mono fun k hk => .inl hk)) fun k hk => ?_)) (.inr (Nat.le_trans (Nat.le_trans hsz ho.size) g3)) hsz
    rcases hk with rfl | rfl | rfl | ⟨t, ht, p, hp, rfl⟩
    · exact .inl (.inl rfl)
    · exact .inl (.inr (.inl rfl))
    · rcases HO1.out.2 with e | e
      · exact .inl (.inr (.inr (.inl e)))
      · exact .inr e
    · exact .inl (.inr (.inr (.inr ⟨t, ht, p, HSUB.out t ht p hp, rfl⟩))))
  clear hf1 hf2 hm hid ex elv h1 footx
  rcases hx with ⟨rfl, eS, rfl⟩ | ⟨rfl, rfl, hx⟩
  all_goals
    try subst xb
    go_wp2_with (first
      | (at_mapUpdate; refine wpList_put _ rfl _ _ _ 49 rfl 3 51 Try.underlying3 Try.underlying49 M n _ f rfl HM.out (by unfold maxLen; omega) id _ rfl rfl hi ?_; intro w2 hm2 ht2; have hh2 : Hid (Whl w2 S M K1 (n + 1) (upd rows1 s (rows1 s ++ [(w1.heap.size, id)])) (maskOf rows1) ∧ Only (Foot S M K1 rows1) w1 w2) := Lib.hid (by first | exact HW2.out 0 w2 ht2 hm2 | exact HW2.out 1 w2 ht2 hm2 | exact HW2.out 2 w2 ht2 hm2); clear hm2 ht2))
    refine mark_any hh2.out.1 hs _ fun w3 K' mv' h3 e3 o3 g3 => ?_
    have hfin := Lib.hid (HEND.out w2 w3 K' mv' hh2.out.2 h3 e3 o3 g3)
    clear h3 e3 o3 g3
    go_wp2_with fail
    exact hfin.out
end Go.Proofs.Ytbhhbddmokddeaa
