/-
  The law's 'does': one call of both wheels.
-/
import Derived.Test.YtbhhbddmokddeaaWsA
import Derived.Deep.RegionHeld3
namespace Go.Proofs.Ytbhhbddmokddeaa
open Go.RowKit Go.Maps

def nvA : Option Nat → Int
  | some p => p
  | none => 0

theorem nv_eq (o : Option Nat) : nv o = .tuple #[.int .i64 (nvA o), .bool o.isSome] := by cases o <;> rfl

/-- Both wheels, with the same rows. -/
structure Both (w0 w : World) (S M D n : Nat) (L : Nat → List Int) : Prop where
  wh : Wh w0 w S M n L
  doc : Doc w D L
  db : w0.heap.size ≤ D

section
variable {w0 w w' : World} {S M D n : Nat} {L L' : Nat → List Int}

theorem Both.below (h : Both w0 w S M D n L) (hb : Below w.heap.size w w') : Both w0 w' S M D n L := ⟨h.wh.below hb, h.doc.below hb, h.db⟩
theorem Both.drewN (h : Both w0 w S M D n L) (q : Nat) : Both w0 (w.drewN q) S M D n L := h.below ⟨rfl, rfl, rfl, Nat.le_refl _, fun _ _ => rfl⟩
theorem Both.drew (h : Both w0 w S M D n L) : Both w0 w.drew S M D n L := h.drewN 1
theorem Both.alloc (h : Both w0 w S M D n L) (o : Obj) : Both w0 (w.alloc o) S M D n L := h.below ((Below.refl _ w).alloc (Nat.le_refl _) o)

theorem Both.notD (h : Both w0 w S M D n L) {k : Nat} {t : TypeId} (hk : HasBlk w k t) (h1 : t ≠ 29) : ¬ k = D := fun e => by
  subst e
  exact hk.ne h.doc.blk h1 rfl

/-- The wheel has turned, the document's not yet. -/
theorem Both.docKept (h : Both w0 w S M D n L) (ho : Only (Own w M) w w') : Doc w' D L :=
  h.doc.only ho (h.wh.other h.doc.blk (by decide) (by decide) (by decide)) fun _ hb => h.wh.other hb (by decide) (by decide) (by decide)

/-- The document's has turned too. -/
theorem whKept {L1 : Nat → List Int} (hw : Wh w0 w S M n L') (hd : Doc w D L1) (hb : w0.heap.size ≤ D) (ho : Only (fun k => k = D) w w') : Wh w0 w' S M n L' :=
  hw.only ho (fun k hk e => hw.other hd.blk (by decide) (by decide) (by decide) (e ▸ hk)) fun k e => e ▸ hb
end

theorem cell_kept {w w' : World} {G : Nat → Prop} {B o : Nat} {t : TypeId} {v : Value} (hb : HasBlk w B t) (hc : w.cell? ⟨B, o, none⟩ = some v) (ho : Only G w w') (hg : ¬ G B) : w'.cell? ⟨B, o, none⟩ = some v :=
  (ho.cell (p := ⟨B, o, none⟩) hb.lt hg).trans hc

theorem rowL_len {L : Nat → List Int} {N : Nat} (hl : ∀ s, s < 64 → (L s).length ≤ N) {s : Int} : (rowL L s).length ≤ N := by
  unfold rowL
  split
  · rename_i hm
    simp only [mayB, decide_eq_true_eq] at hm
    exact hl _ (by omega)
  · simp

set_option maxHeartbeats 1600000 in
theorem does_any {w0 w : World} {S M D n : Nat} {L : Nat → List Int} {dop sl id : Int} (h : Both w0 w S M D n L) (hn : n < 90000) (hs : (Lit.int .i64 sl).wf = true) (hi : (Lit.int .i64 id).wf = true) (Q : Ending → World → Prop)
    (hQ : ∀ w' n' L', n' ≤ n + 1 → Both w0 w' S M D n' L' → Q (.returned (.bool true)) w') :
    Calls Try.prog 10 #[ptr S, ptr D, .agg #[.int .i64 dop, .int .i64 sl, .int .i64 id]] w Q := by
  have HQ := Lib.hid hQ
  have hl : ∀ s, s < 64 → (L s).length ≤ 99999 := fun s hs => Nat.le_trans (h.wh.len hs) (by omega)
  have HL := Lib.hid hl
  have H := Lib.hid h
  have HS := Lib.hid hs
  have HI := Lib.hid hi
  have HG := Lib.hid h.wh.good
  have HNN := Lib.hid hn
  clear hQ hl h hs hi hn
  have hb0 := Blk.new w 33 #[.int .i64 dop, .int .i64 sl, .int .i64 id]
  have HBX : Hid (HasBlk (w.alloc (.cells #[.int .i64 dop, .int .i64 sl, .int .i64 id] 33)).drew w.heap.size 33) := Lib.hid ⟨_, hb0⟩
  have HC1 := Lib.hid (hb0.drew.cell 1)
  have HC2 := Lib.hid (hb0.drew.cell 2)
  have HW := Lib.hid (H.out.alloc (.cells #[.int .i64 dop, .int .i64 sl, .int .i64 id] 33)).drew
  have HO := Lib.hid (HW.out.wh.other HBX.out (by decide) (by decide) (by decide))
  clear hb0
  by_cases e0 : dop = 0
  · subst e0
    go_enter Try.func10, Try.ntmps10
    go_wp2_with fail
    go_region_held3 (fun w' => w'.cell? ⟨w.heap.size, 1, none⟩ = some (.int .i64 sl) ∧ w'.cell? ⟨w.heap.size, 2, none⟩ = some (.int .i64 id)) (first | exact f2 | exact f3 | go_keep) (first | (go_at_call 15; refine add_wh HW.out.wh (by have := HNN.out; omega) _ (fun w2 h2 ho2 => ?_); have f2 := And.intro (cell_kept HBX.out HC1.out ho2 HO.out) (cell_kept HBX.out HC2.out ho2 HO.out); have H2 := Lib.hid (And.intro h2 (And.intro (HW.out.docKept ho2) (HBX.out.only ho2 HO.out))); clear h2 ho2) | (go_at_call 22; refine radd_d H2.out.2.1 HG.out HL.out _ (fun w3 h3 ho3 => ?_); have hne3 := H2.out.2.2.ne H2.out.2.1.blk (by decide); have f3 := And.intro (cell_kept H2.out.2.2 f2.1 ho3 hne3) (cell_kept H2.out.2.2 f2.2 ho3 hne3); have H3 := Lib.hid (Both.mk (whKept H2.out.1 H2.out.2.1 HW.out.db ho3) h3 HW.out.db); clear h3 ho3))
    go_wp2_with fail
    exact HQ.out _ _ _ (by split <;> omega) H3.out
  by_cases e1 : dop = 1
  · subst e1
    go_enter Try.func10, Try.ntmps10
    go_wp2_with fail
    go_region_held3 (fun w' => w'.cell? ⟨w.heap.size, 2, none⟩ = some (.int .i64 id)) (first | exact f2 | exact f3 | go_keep) (first | (go_at_call 16; refine drop_wh HW.out.wh HI.out _ (fun w2 h2 ho2 => ?_); have f2 := cell_kept HBX.out HC2.out ho2 HO.out; have H2 := Lib.hid (And.intro h2 (And.intro (HW.out.docKept ho2) (HBX.out.only ho2 HO.out))); clear h2 ho2) | (go_at_call 23; refine rdrop_d H2.out.2.1 HG.out (fun s hs => Nat.le_trans (HL.out s hs) (by omega)) _ (fun w3 h3 ho3 => ?_); have hne3 := H2.out.2.2.ne H2.out.2.1.blk (by decide); have f3 := cell_kept H2.out.2.2 f2 ho3 hne3; have H3 := Lib.hid (Both.mk (whKept H2.out.1 H2.out.2.1 HW.out.db ho3) h3 HW.out.db); clear h3 ho3))
    go_wp2_with fail
    exact HQ.out _ _ _ (by omega) H3.out
  have t0 : (dop == 0) = false := by simpa using e0
  have t1 : (dop == 1) = false := by simpa using e1
  clear e0 e1
  by_cases e2 : dop = 2
  · subst e2
    go_enter Try.func10, Try.ntmps10
    go_wp2_with fail
    refine where_wh (H.out.alloc _).wh HI.out _ ?_
    rw [nv_eq]
    go_wp2_with fail
    refine rwhere_d (H.out.alloc _).doc (fun s hs => Nat.le_trans (HL.out s hs) (by omega)) _ (fun q => ?_)
    rw [nv_eq]
    go_wp2_with fail
    exact HQ.out _ _ _ (by omega) ((H.out.alloc _).drewN q)
  have t2 : (dop == 2) = false := by simpa using e2
  clear e2
  have hm1 : n ≤ 100000 := by have := HNN.out; omega
  by_cases e3 : dop = 3
  · subst e3
    go_enter Try.func10, Try.ntmps10
    go_wp2_with fail
    have HRL := Lib.hid (rowL_len HL.out (s := sl))
    go_region_held3 (fun w' => w'.cell? ⟨w.heap.size, 1, none⟩ = some (.int .i64 sl)) (first | exact f2 | exact f3 | go_keep) (first | (go_at_call 19; refine row_wh HW.out.wh hm1 _ (fun w2 A2 c2 hb2 hv2 hk2 => ?_); have f2 := cell_kept (G := fun _ => False) HBX.out HC1.out (Only.ofBelow hb2) (fun h => h); have H2 := Lib.hid (And.intro (HW.out.below hb2) hv2); clear hb2 hv2 hk2) | (go_at_call 25; refine rrow_d H2.out.1.doc _ (fun A3 c3 hv3 => ?_); have H3 := Lib.hid hv3; clear hv3) | (go_at_call 21; refine ints_any H2.out.2 H3.out (by have := HRL.out; unfold maxLen; omega) (by have := HRL.out; unfold maxLen; omega) _ (fun kk bb hbb => ?_); obtain rfl : bb = true := hbb.2 rfl; have f3 : (w2.drewN kk).cell? ⟨w.heap.size, 1, none⟩ = some (.int .i64 sl) := f2; clear hbb))
    go_wp2_with fail
    exact HQ.out _ _ _ (by omega) (H2.out.1.drewN kk)
  have t3 : (dop == 3) = false := by simpa using e3
  clear e3
  by_cases e4 : dop = 4
  · subst e4
    go_enter Try.func10, Try.ntmps10
    go_wp2_with fail
    have HRL := Lib.hid (rowL_len HL.out (s := sl))
    go_region_held3 (fun w' => w'.cell? ⟨w.heap.size, 1, none⟩ = some (.int .i64 sl)) (first | exact f2 | exact f3 | exact f4 | go_keep) (first | (go_at_call 17; refine empty_wh HW.out.wh hm1 _ (fun w2 A2 c2 h2 hv2 ho2 => ?_); have f2 := cell_kept HBX.out HC1.out ho2 HO.out; have H2 := Lib.hid (And.intro h2 (And.intro (HW.out.docKept ho2) (And.intro (HBX.out.only ho2 HO.out) hv2))); clear h2 ho2 hv2) | (go_at_call 26; refine rempty_d H2.out.2.1 _ (fun w3 A3 c3 h3 hv3 ho3 => ?_); have hne3 := H2.out.2.2.1.ne H2.out.2.1.blk (by decide); have f3 := cell_kept H2.out.2.2.1 f2 ho3 hne3; have H3 := Lib.hid (And.intro (Both.mk (whKept H2.out.1 H2.out.2.1 HW.out.db ho3) h3 HW.out.db) (And.intro (H2.out.2.2.2.only ho3 (fun b hb e => hb.ne H2.out.2.1.blk (by decide) e)).1 hv3)); clear h3 ho3 hv3 hne3) | (go_at_call 21; refine ints_any H3.out.2.1 H3.out.2.2 (by have := HRL.out; unfold maxLen; omega) (by have := HRL.out; unfold maxLen; omega) _ (fun kk bb hbb => ?_); obtain rfl : bb = true := hbb.2 rfl; have f4 : (w3.drewN kk).cell? ⟨w.heap.size, 1, none⟩ = some (.int .i64 sl) := f3; clear hbb))
    go_wp2_with fail
    exact HQ.out _ _ _ (by omega) (H3.out.1.drewN kk)
  have t4 : (dop == 4) = false := by simpa using e4
  clear e4
  by_cases e5 : dop = 5
  · subst e5
    have hsl : sl ≤ 9223372036854775807 := by have := HS.out; simp [Lit.wf, IntKind.min, IntKind.max, IntKind.signed, IntKind.bits] at this; omega
    have HSL := Lib.hid hsl
    clear hsl
    go_enter Try.func10, Try.ntmps10
    go_wp2_with fail
    refine next_wh (H.out.alloc _).wh HSL.out _ ?_
    rw [nv_eq]
    go_wp2_with fail
    refine rnext_d (H.out.alloc _).doc HSL.out _ ?_
    rw [nv_eq]
    go_wp2_with fail
    exact HQ.out _ _ _ (by omega) (H.out.alloc _)
  have t5 : (dop == 5) = false := by simpa using e5
  clear e5
  go_enter Try.func10, Try.ntmps10
  go_wp2_with fail
  exact HQ.out _ _ _ (by omega) (H.out.alloc _)
end Go.Proofs.Ytbhhbddmokddeaa
