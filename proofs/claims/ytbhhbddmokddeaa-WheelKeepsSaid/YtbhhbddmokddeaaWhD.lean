/-
  Drop, walked.
-/
import Derived.Test.YtbhhbddmokddeaaWhC
namespace Go.Proofs.Ytbhhbddmokddeaa
open Go.RowKit Go.Maps

theorem mask_upd {rows : Nat → List Nd} {s mv' : Nat} {l : List Nd} (hs : s < 64) (e : [mv'] = setF [maskOf rows] s 1 (if (upd rows s l s).isEmpty then 0 else 1)) : mv' = maskOf (upd rows s l) := by
  have := mark_law (rows := upd rows s l) (mv := maskOf rows) hs fun t ht hne => by rw [testBit_maskOf ht, upd_other _ _ hne]
  rw [this] at e
  simpa using e

set_option maxHeartbeats 800000 in
theorem drop_in {w : World} {S M K n s L : Nat} {id : Int} {rows : Nat → List Nd} {pre post : List Nd} (h : Whl w S M K n rows (maskOf rows)) (hs : s < 64) (hr : rows s = pre ++ (L, id) :: post) (Q : Ending → World → Prop)
    (hQ : ∀ w' K', Whl w' S M K' n (upd rows s (pre ++ post)) (maskOf (upd rows s (pre ++ post))) → Only (Foot S M K rows) w w' → w.heap.size ≤ K' → Q (.returned (.bool true)) w') :
    Calls Try.prog 16 #[ptr S, .int .i64 id] w Q := by
  have hlin : (L, id) ∈ rows s := by rw [hr]; simp
  have hpin : ∀ q ∈ pre, q ∈ rows s := fun q hq => by rw [hr]; simp [hq]
  have hqin : ∀ q ∈ post, q ∈ rows s := fun q hq => by rw [hr]; simp [hq]
  have hnd := h.ok.nd s hs
  rw [hr] at hnd
  have hi := h.fits s hs _ hlin
  have hLS : L ≠ S := h.pS hs hlin
  have hsg := h.seg s hs
  rw [hr, Seg.append] at hsg
  obtain ⟨sg1, ⟨_, l1, l2, l3⟩, sg2⟩ := hsg
  obtain ⟨f, hm, hf1, hf2⟩ := h.map
  have c1 := h.mc
  have hfst := h.fst s hs
  have hlst := h.lst s hs
  have hxx : ∃ xb xo pv x0, xAt S s pre = (xb, xo) ∧ lstOr pre (.pointer none) = pv ∧ w.cell? ⟨xb, xo, none⟩ = some x0 ∧ w.frozen? ⟨xb, xo, none⟩ = false ∧ L ≠ xb ∧ xb ≠ M ∧ K ≠ xb ∧ Foot S M K rows xb ∧ ((pv = .pointer none ∧ xb = S ∧ xo = s * 2) ∨ (pv = ptr xb ∧ xo = 3 ∧ xb ≠ S)) := by
    rcases List.eq_nil_or_concat pre with rfl | ⟨a, q, rfl⟩
    · exact ⟨S, s * 2, .pointer none, _, rfl, rfl, hfst, h.sblk.frozen _, hLS, h.SM, h.SK.symm, .inl rfl, .inl ⟨rfl, rfl, rfl⟩⟩
    · rw [List.concat_eq_append] at *
      have hq := hpin q (by simp)
      rw [Seg.append] at sg1
      refine ⟨q.1, 3, ptr q.1, _, xAt_last _ _ _ _, by rw [lstOr_append]; rfl, sg1.2.1.2.2.2, (h.blk s hs q hq).frozen _, ?_, h.pM hs hq, (h.pK hs hq).symm, .inr (.inr (.inr ⟨s, hs, q, hq, rfl⟩)), .inr ⟨rfl, rfl, h.pS hs hq⟩⟩
      refine h.ok.ne hs hs hlin hq (.inr fun e => ?_)
      rw [List.nodup_append] at hnd
      exact hnd.2.2 q (by simp) (L, id) (by simp) e.symm
  have hyy : ∃ yb yo nx y0, yAt S s post = (yb, yo) ∧ hdOr post (.pointer none) = nx ∧ w.cell? ⟨yb, yo, none⟩ = some y0 ∧ w.frozen? ⟨yb, yo, none⟩ = false ∧ L ≠ yb ∧ yb ≠ M ∧ K ≠ yb ∧ Foot S M K rows yb ∧ ((nx = .pointer none ∧ yb = S ∧ yo = s * 2 + 1) ∨ (nx = ptr yb ∧ yo = 2 ∧ yb ≠ S)) := by
    cases post with
    | nil => exact ⟨S, s * 2 + 1, .pointer none, _, rfl, rfl, hlst, h.sblk.frozen _, hLS, h.SM, h.SK.symm, .inl rfl, .inl ⟨rfl, rfl, rfl⟩⟩
    | cons q b =>
      have hq := hqin q (by simp)
      refine ⟨q.1, 2, ptr q.1, _, rfl, rfl, sg2.1.2.2.1, (h.blk s hs q hq).frozen _, ?_, h.pM hs hq, (h.pK hs hq).symm, .inr (.inr (.inr ⟨s, hs, q, hq, rfl⟩)), .inr ⟨rfl, rfl, h.pS hs hq⟩⟩
      refine h.ok.ne hs hs hlin hq (.inr fun e => ?_)
      rw [List.nodup_append, List.nodup_cons] at hnd
      exact hnd.2.1.1 (by rw [e]; simp)
  obtain ⟨xb, xo, pv, x0, ex, epv, cx, fx, nLx, nMx, nKx, footx, hx⟩ := hxx
  obtain ⟨yb, yo, nx, y0, ey, enx, cy, fy, nLy, nMy, nKy, footy, hy⟩ := hyy
  have hXY : (⟨xb, xo, none⟩ : Addr) ≠ ⟨yb, yo, none⟩ := by
    simp only [ne_eq, Addr.mk.injEq, and_true, not_and]
    rcases hx with ⟨_, rfl, rfl⟩ | ⟨_, rfl, hx⟩ <;> rcases hy with ⟨_, rfl, rfl⟩ | ⟨_, rfl, hy⟩
    · intro _; omega
    · intro e; exact absurd e.symm hy
    · intro e; exact absurd e hx
    · intro _; omega
  rw [epv] at l2
  have l3' : w.cell? ⟨L, 3, none⟩ = some nx := by rw [← enx]; exact l3
  have l2' : w.cell? ⟨L, 2, none⟩ = some pv := l2
  have l1' : w.cell? ⟨L, 1, none⟩ = some (.int .i64 (s : Int)) := l1
  have hw2 : ∀ q w2, (((w.setCell ⟨xb, xo, none⟩ nx).setCell ⟨yb, yo, none⟩ pv).drewN q).mapTurned w2 M → IMap Try.prog 3 w2 M n (if (f id).isSome then tot rows - 1 else tot rows) (fun j => if j = id then none else f j) →
      Whl w2 S M K n (upd rows s (pre ++ post)) (maskOf rows) ∧ w2.cell? ⟨L, 1, none⟩ = some (.int .i64 (s : Int)) ∧ Only (Foot S M K rows) w w2 := by
    intro q w2 ht hm2
    have hc : ∀ p, w2.cell? p = ((w.setCell ⟨xb, xo, none⟩ nx).setCell ⟨yb, yo, none⟩ pv).cell? p := fun p => turned_cell ht p
    have hoth : ∀ b o, (b, o) ≠ (xb, xo) → (b, o) ≠ (yb, yo) → w2.cell? ⟨b, o, none⟩ = w.cell? ⟨b, o, none⟩ := by
      intro b o h1 h2
      rw [hc, World.cell?_setCell_other, World.cell?_setCell_other]
      · intro e; simp only [Addr.mk.injEq, and_true] at e; exact h1 (by rw [e.1, e.2])
      · intro e; simp only [Addr.mk.injEq, and_true] at e; exact h2 (by rw [e.1, e.2])
    have ho : Only (Foot S M K rows) w w2 := ((((Only.refl (Foot S M K rows) w).setCell (p := ⟨xb, xo, none⟩) (.inl footx) _).setCell (p := ⟨yb, yo, none⟩) (.inl footy) _).drewN q).turned ht (.inl (.inr (.inl rfl)))
    have hrow : RowIs w2 K 34 1 (uvals [maskOf rows]) := by
      obtain ⟨q1, cur, q2, q3⟩ := h.row
      exact ⟨q1, cur, ((((q2.far (p := ⟨xb, xo, none⟩) nKx _).far (p := ⟨yb, yo, none⟩) nKy _)).drewN q).grown ht.grown (fun e => h.MK (Option.some.inj e)), q3⟩
    refine ⟨h.unlink hs hr ?_ ?_ (fun b o h1 h2 => hoth b o (by rw [ex] at h1; exact h1) (by rw [ey] at h2; exact h2)) (fun b t hb => (((hb.setCell _ _).setCell _ _).drewN q).turned ht) hrow hf1 hf2 ?_, ?_, ho⟩
    · rw [ex]
      show w2.cell? ⟨xb, xo, none⟩ = _
      rw [enx, hc, World.cell?_setCell_other _ _ _ _ hXY.symm]
      exact World.cell?_setCell_same _ _ _ cx
    · rw [ey]
      show w2.cell? ⟨yb, yo, none⟩ = _
      rw [epv, hc]
      exact World.cell?_setCell_same _ _ _ ((World.cell?_setCell_other _ _ _ _ hXY).trans cy)
    · rw [hf1 s hs _ hlin] at hm2
      exact hm2
    · rw [hoth]
      · exact l1
      · exact fun e => nLx (Prod.mk.inj e).1
      · exact fun e => nLy (Prod.mk.inj e).1
  have HW2 := Lib.hid hw2
  have HQ := Lib.hid hQ
  have HF := Lib.hid (hf1 s hs _ hlin)
  have HM0 := Lib.hid hm
  have HM := Lib.hid ((hm.setCell (p := ⟨xb, xo, none⟩) nMx.symm nx).setCell (p := ⟨yb, yo, none⟩) nMy.symm pv)
  have hSlt := h.lt S (.inl rfl)
  have hs0 : (0 : Int) ≤ (s : Int) := by omega
  have hs1 : (s : Int) < 64 := by omega
  have c1' : ((w.setCell ⟨xb, xo, none⟩ nx).setCell ⟨yb, yo, none⟩ pv).cell? ⟨S, 128, none⟩ = some (.map (some M)) := by
    rw [World.cell?_setCell_other, World.cell?_setCell_other]
    · exact c1
    · simp only [ne_eq, Addr.mk.injEq, and_true, not_and]; rcases hx with ⟨_, _, e⟩ | ⟨_, e, _⟩ <;> omega
    · simp only [ne_eq, Addr.mk.injEq, and_true, not_and]; rcases hy with ⟨_, _, e⟩ | ⟨_, e, _⟩ <;> omega
  have l3x : (w.setCell ⟨xb, xo, none⟩ nx).cell? ⟨L, 3, none⟩ = some nx := by
    rw [World.cell?_setCell_other _ _ _ _ (by simp only [ne_eq, Addr.mk.injEq, and_true, not_and]; intro e; exact absurd e.symm nLx)]; exact l3'
  have l2x : (w.setCell ⟨xb, xo, none⟩ nx).cell? ⟨L, 2, none⟩ = some pv := by
    rw [World.cell?_setCell_other _ _ _ _ (by simp only [ne_eq, Addr.mk.injEq, and_true, not_and]; intro e; exact absurd e.symm nLx)]; exact l2'
  have cyx : (w.setCell ⟨xb, xo, none⟩ nx).cell? ⟨yb, yo, none⟩ = some y0 := (World.cell?_setCell_other _ _ _ _ hXY).trans cy
  have HEND : Hid (∀ w2 w3 K' mv', Whl w2 S M K n (upd rows s (pre ++ post)) (maskOf rows) → Only (Foot S M K rows) w w2 → Whl w3 S M K' n (upd rows s (pre ++ post)) mv' → [mv'] = setF [maskOf rows] s 1 (if (upd rows s (pre ++ post) s).isEmpty then 0 else 1) → Only (fun k => k = S) w2 w3 → w2.heap.size ≤ K' → Q (.returned (.bool true)) w3) := Lib.hid (by
    intro w2 w3 K' mv' _ ho h3 e3 o3 g3
    obtain rfl := mask_upd hs e3
    exact HQ.out w3 K' h3 (ho.trans' (o3.mono fun k hk => .inl hk)) (Nat.le_trans ho.size g3))
  clear h hw2 hQ hm hf1 hf2 hnd hpin hqin hlin sg1 sg2 footx footy ex ey epv enx hfst hlst l1 l2 l3 hr
  rcases hx with ⟨rfl, eS, rfl⟩ | ⟨rfl, rfl, hx⟩ <;> rcases hy with ⟨rfl, eS', rfl⟩ | ⟨rfl, rfl, hy⟩
  all_goals
    try subst xb
    try subst yb
    go_enter Try.func16, Try.ntmps16
    go_wp2_with (first
      | (at_lookup; refine wpList_look_hit _ rfl _ _ 49 rfl 3 51 Try.underlying3 Try.underlying49 (zeroLink _) M n _ f rfl HM0.out id rfl hi _ HF.out ?_))
    go_region
  all_goals
    go_wp2_with (first
      | (at_delete; refine wpList_del _ rfl _ _ 49 3 rfl 51 Try.underlying3 Try.underlying49 M n _ f rfl HM.out id rfl hi ?_; intro w2 hm2 ht2; have hh2 : Hid (Whl w2 S M K n (upd rows s (pre ++ post)) (maskOf rows) ∧ w2.cell? ⟨L, 1, none⟩ = some (.int .i64 (s : Int)) ∧ Only (Foot S M K rows) w w2) := Lib.hid (by first | exact HW2.out 1 w2 ht2 hm2 | exact HW2.out 2 w2 ht2 hm2 | exact HW2.out 3 w2 ht2 hm2); have hl2 := hh2.out.2.1; clear hm2 ht2))
  all_goals
    try
      go_region
      all_goals
        go_wp2_with (first
          | (at_delete; refine wpList_del _ rfl _ _ 49 3 rfl 51 Try.underlying3 Try.underlying49 M n _ f rfl HM.out id rfl hi ?_; intro w2 hm2 ht2; have hh2 : Hid (Whl w2 S M K n (upd rows s (pre ++ post)) (maskOf rows) ∧ w2.cell? ⟨L, 1, none⟩ = some (.int .i64 (s : Int)) ∧ Only (Foot S M K rows) w w2) := Lib.hid (by first | exact HW2.out 1 w2 ht2 hm2 | exact HW2.out 2 w2 ht2 hm2 | exact HW2.out 3 w2 ht2 hm2); have hl2 := hh2.out.2.1; clear hm2 ht2))
  all_goals
    try
      go_region
      all_goals
        go_wp2_with (first
          | (at_delete; refine wpList_del _ rfl _ _ 49 3 rfl 51 Try.underlying3 Try.underlying49 M n _ f rfl HM.out id rfl hi ?_; intro w2 hm2 ht2; have hh2 : Hid (Whl w2 S M K n (upd rows s (pre ++ post)) (maskOf rows) ∧ w2.cell? ⟨L, 1, none⟩ = some (.int .i64 (s : Int)) ∧ Only (Foot S M K rows) w w2) := Lib.hid (by first | exact HW2.out 1 w2 ht2 hm2 | exact HW2.out 2 w2 ht2 hm2 | exact HW2.out 3 w2 ht2 hm2); have hl2 := hh2.out.2.1; clear hm2 ht2))
  all_goals
    refine mark_any hh2.out.1 hs _ fun w3 K' mv' h3 e3 o3 g3 => ?_
    have hfin := Lib.hid (HEND.out w2 w3 K' mv' hh2.out.1 hh2.out.2.2 h3 e3 o3 g3)
    clear h3 e3 o3 g3
    go_wp2_with fail
    exact hfin.out
end Go.Proofs.Ytbhhbddmokddeaa
