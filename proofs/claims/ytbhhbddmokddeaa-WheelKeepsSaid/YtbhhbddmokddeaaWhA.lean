/-
  The state behind a *Wheel; New, may, mark.
-/
import Derived.Test.YtbhhbddmokddeaaWhM
import Derived.Test.YtbhhbddmokddeaaWbA
import Derived.Test.YtbhhbddmokddeaaProg
import Derived.Deep.QuietTactic
import Derived.BigQuiet
import Derived.StillTailTactics
import Derived.OwnWalk
namespace Go.Proofs.Ytbhhbddmokddeaa
open Go.RowKit Go.Maps

abbrev cellsOf (w : World) (b o : Nat) : Option Value := w.cell? ⟨b, o, none⟩

/-- What lies behind a *Wheel at block S: the map M, the mask's word at K. -/
structure Whl (w : World) (S M K n : Nat) (rows : Nat → List Nd) (mv : Nat) : Prop where
  fst : ∀ s, s < 64 → w.cell? ⟨S, s * 2, none⟩ = some (hdOr (rows s) (.pointer none))
  lst : ∀ s, s < 64 → w.cell? ⟨S, s * 2 + 1, none⟩ = some (lstOr (rows s) (.pointer none))
  mc : w.cell? ⟨S, 128, none⟩ = some (.map (some M))
  kc : ∃ c, w.cell? ⟨S, 129, none⟩ = some (.slice (some ⟨K, 0, none⟩) 1 c)
  map : ∃ f, IMap Try.prog 3 w M n (tot rows) f ∧ (∀ s, s < 64 → ∀ p ∈ rows s, f p.2 = some (ptr p.1)) ∧ ∀ i, (∀ s, s < 64 → ∀ p ∈ rows s, p.2 ≠ i) → f i = none
  seg : ∀ s : Nat, s < 64 → Seg (cellsOf w) (s : Int) (.pointer none) (rows s) (.pointer none)
  blk : ∀ s, s < 64 → ∀ p ∈ rows s, HasBlk w p.1 59
  sblk : HasBlk w S 56
  row : RowIs w K 34 1 (uvals [mv])
  mlt : mv < 2 ^ 64
  ok : Rows rows
  fits : ∀ s, s < 64 → ∀ p ∈ rows s, (Lit.int .i64 p.2).wf = true

/-- Its blocks. -/
def Foot (S M K : Nat) (rows : Nat → List Nd) (k : Nat) : Prop := k = S ∨ k = M ∨ k = K ∨ ∃ s, s < 64 ∧ ∃ p ∈ rows s, k = p.1

section
variable {w w' : World} {S M K n mv : Nat} {rows : Nat → List Nd}

theorem cell_lt {b o : Nat} {v : Value} (h : w.cell? ⟨b, o, none⟩ = some v) : b < w.heap.size := World.block_lt_of_cell? w _ h

theorem RowIs.only {g n : Nat} {e : TypeId} {us : List Value} {F : Nat → Prop} (h : RowIs w g e n us) (hb : Only F w w') (hg : ¬ F g) : RowIs w' g e n us := by
  obtain ⟨h1, cur, h2, h3⟩ := h
  exact ⟨h1, cur, h2.only hb hg, h3⟩

theorem Whl.lt (h : Whl w S M K n rows mv) : ∀ k, Foot S M K rows k → k < w.heap.size := by
  rintro k (rfl | rfl | rfl | ⟨s, hs, p, hp, rfl⟩)
  · exact cell_lt h.mc
  · obtain ⟨f, hf, _⟩ := h.map
    exact hf.lt
  · exact h.row.hasBlk.lt
  · exact (h.blk s hs p hp).lt

theorem Whl.only {G : Nat → Prop} (h : Whl w S M K n rows mv) (ho : Only G w w') (hd : ∀ k, Foot S M K rows k → ¬ G k) : Whl w' S M K n rows mv := by
  have hc : ∀ k, Foot S M K rows k → ∀ o, w'.cell? ⟨k, o, none⟩ = w.cell? ⟨k, o, none⟩ := fun k hk o => ho.cell (h.lt k hk) (hd k hk)
  have hS := hc S (.inl rfl)
  have hm : ∀ s, s < 64 → ∀ p ∈ rows s, Foot S M K rows p.1 := fun s hs p hp => .inr (.inr (.inr ⟨s, hs, p, hp, rfl⟩))
  obtain ⟨f, hf1, hf2⟩ := h.map
  obtain ⟨c, hk⟩ := h.kc
  exact ⟨fun s hs => (hS _).trans (h.fst s hs), fun s hs => (hS _).trans (h.lst s hs), (hS _).trans h.mc, ⟨c, (hS _).trans hk⟩, ⟨f, hf1.only ho (hd M (.inr (.inl rfl))), hf2⟩,
    fun s hs => (h.seg s hs).frame fun p hp o => hc p.1 (hm s hs p hp) o, fun s hs p hp => (h.blk s hs p hp).only ho (hd _ (hm s hs p hp)), h.sblk.only ho (hd S (.inl rfl)), h.row.only ho (hd K (.inr (.inr (.inl rfl)))), h.mlt, h.ok, h.fits⟩

theorem Whl.below (h : Whl w S M K n rows mv) (hb : Below w.heap.size w w') : Whl w' S M K n rows mv := h.only (Only.ofBelow (F := fun _ => False) hb) fun _ _ => id
theorem Whl.drew (h : Whl w S M K n rows mv) : Whl w.drew S M K n rows mv := h.only ((Only.refl (fun _ => False) w).drew) fun _ _ => id
theorem Whl.drewN (h : Whl w S M K n rows mv) (q : Nat) : Whl (w.drewN q) S M K n rows mv := h.only ((Only.refl (fun _ => False) w).drewN q) fun _ _ => id

/-! blocks of other types are none of its own -/

theorem HasBlk.ne {w : World} {a b : Nat} {t u : TypeId} (ha : HasBlk w a t) (hb : HasBlk w b u) (h : t ≠ u) : a ≠ b := by
  obtain ⟨_, ha⟩ := ha
  obtain ⟨_, hb⟩ := hb
  exact ha.ne_ hb h

theorem Whl.SM (h : Whl w S M K n rows mv) : S ≠ M := by
  obtain ⟨f, hf, _⟩ := h.map
  obtain ⟨_, hs⟩ := h.sblk
  exact hf.ne_blk hs

theorem Whl.SK (h : Whl w S M K n rows mv) : S ≠ K := h.sblk.ne h.row.hasBlk (by decide)

theorem Whl.MK (h : Whl w S M K n rows mv) : K ≠ M := by
  obtain ⟨f, hf, _⟩ := h.map
  obtain ⟨_, hs⟩ := h.row.hasBlk
  exact hf.ne_blk hs

theorem Whl.pS (h : Whl w S M K n rows mv) {s : Nat} (hs : s < 64) {p : Nd} (hp : p ∈ rows s) : p.1 ≠ S := (h.blk s hs p hp).ne h.sblk (by decide)

theorem Whl.pK (h : Whl w S M K n rows mv) {s : Nat} (hs : s < 64) {p : Nd} (hp : p ∈ rows s) : p.1 ≠ K := (h.blk s hs p hp).ne h.row.hasBlk (by decide)

theorem Whl.pM (h : Whl w S M K n rows mv) {s : Nat} (hs : s < 64) {p : Nd} (hp : p ∈ rows s) : p.1 ≠ M := by
  obtain ⟨f, hf, _⟩ := h.map
  obtain ⟨_, hb⟩ := h.blk s hs p hp
  exact hf.ne_blk hb

theorem Whl.other (h : Whl w S M K n rows mv) {k : Nat} {t : TypeId} (hk : HasBlk w k t) (h1 : t ≠ 59) (h2 : t ≠ 56) (h3 : t ≠ 34) : ¬ Foot S M K rows k := by
  rintro (rfl | rfl | rfl | ⟨s, hs, p, hp, rfl⟩)
  · exact hk.ne h.sblk h2 rfl
  · obtain ⟨f, hf, _⟩ := h.map
    obtain ⟨_, hk⟩ := hk
    exact hf.ne_blk hk rfl
  · exact hk.ne h.row.hasBlk h3 rfl
  · exact hk.ne (h.blk s hs p hp) h1 rfl
end

/-! ### may -/

def mayB (s : Int) : Bool := decide (0 ≤ s ∧ s < 64)

theorem may_nil {w : World} {s : Int} (Q : Ending → World → Prop) (hQ : Q (.returned (.bool false)) w) :
    Calls Try.prog 28 #[.pointer none, .int .i64 s] w Q := by
  go_enter Try.func28, Try.ntmps28
  go_wp2
  all_goals exact hQ

theorem may_any {w : World} {S : Nat} {s : Int} (Q : Ending → World → Prop) (hQ : Q (.returned (.bool (mayB s))) w) :
    Calls Try.prog 28 #[ptr S, .int .i64 s] w Q := by
  have HQ := Lib.hid hQ
  clear hQ
  have hc : (0 ≤ s ∧ s < 64) ∨ (s < 0) ∨ (0 ≤ s ∧ 64 ≤ s) := by omega
  rcases hc with ⟨h1, h2⟩ | h1 | ⟨h1, h2⟩
  all_goals
    have e : mayB s = decide (0 ≤ s ∧ s < 64) := rfl
  · rw [decide_eq_true ⟨h1, h2⟩] at e
    rw [e] at HQ
    clear e
    go_enter Try.func28, Try.ntmps28
    go_wp2
    all_goals exact HQ.out
  · rw [decide_eq_false (by omega)] at e
    rw [e] at HQ
    clear e
    go_enter Try.func28, Try.ntmps28
    go_wp2
    all_goals exact HQ.out
  · rw [decide_eq_false (by omega)] at e
    rw [e] at HQ
    clear e
    have hd : decide (s < 64) = false := by rw [decide_eq_false_iff_not]; omega
    go_enter Try.func28, Try.ntmps28
    go_wp2
    all_goals exact HQ.out

/-! ### mark -/

set_option maxHeartbeats 400000 in
theorem mark_any {w : World} {S M K n mv s : Nat} {rows : Nat → List Nd} (h : Whl w S M K n rows mv) (hs : s < 64) (Q : Ending → World → Prop)
    (hQ : ∀ w' K' mv', Whl w' S M K' n rows mv' → [mv'] = setF [mv] s 1 (if (rows s).isEmpty then 0 else 1) → Only (fun k => k = S) w w' → w.heap.size ≤ K' → Q (.returned (.tuple #[])) w') :
    Calls Try.prog 29 #[ptr S, .int .i64 (s : Int)] w Q := by
  have HQ := Lib.hid hQ
  have HH := Lib.hid h
  have c0 := h.fst s hs
  obtain ⟨c, ck⟩ := h.kc
  clear hQ h
  have hfz := Lib.hid (fun w1 (hb : Below w.heap.size w w1) => (HH.out.below hb).sblk.frozen 129)
  have hset := Lib.hid (fun v hv => set_yes (c := c) (v := v) (a := s) (k := 1) HH.out.row.vals (fun x hx => by obtain rfl : x = mv := by simpa using hx
                                                                                                                exact HH.out.mlt) hv (by decide) (by decide) (by omega))
  have hend : Hid (∀ v w1 A1 c1, v = (if (rows s).isEmpty then 0 else 1) → OwnW w1 w.heap.size A1 1 (setF [mv] s 1 v) → Below w.heap.size w w1 → Q (.returned (.tuple #[])) (w1.setCell ⟨S, 129, none⟩ (.slice A1 1 c1))) := Lib.hid (by
    intro v w1 A1 c1 hv ho hb
    subst hv
    obtain ⟨g, rfl, hg, hr⟩ := ho.2 (by decide)
    obtain ⟨mv', hmv⟩ : ∃ x, setF [mv] s 1 (if (rows s).isEmpty then 0 else 1) = [x] := by
      have := setF_length [mv] s 1 (if (rows s).isEmpty then 0 else 1)
      match setF [mv] s 1 (if (rows s).isEmpty then 0 else 1), this with
      | [x], _ => exact ⟨x, rfl⟩
    have hml : mv' < 2 ^ 64 := setF_bnd [mv] s 1 (if (rows s).isEmpty then 0 else 1) mv' (by rw [hmv]; simp)
    rw [hmv] at hr
    have h1 := HH.out.below hb
    have hSlt := HH.out.lt S (.inl rfl)
    have hne : S ≠ g := by omega
    have ho : Only (fun k => k = S) w (w1.setCell ⟨S, 129, none⟩ (.slice (some ⟨g, 0, none⟩) 1 c1)) := (Only.ofBelow (F := fun k => k = S) hb).setCell (p := ⟨S, 129, none⟩) (.inl rfl) _
    have hcell : ∀ o, o ≠ 129 → (w1.setCell ⟨S, 129, none⟩ (.slice (some ⟨g, 0, none⟩) 1 c1)).cell? ⟨S, o, none⟩ = w1.cell? ⟨S, o, none⟩ := fun o ho => World.cell?_setCell_other _ _ _ _ (by simp only [ne_eq, Addr.mk.injEq]; omega)
    have hcp : ∀ k, k ≠ S → ∀ o, (w1.setCell ⟨S, 129, none⟩ (.slice (some ⟨g, 0, none⟩) 1 c1)).cell? ⟨k, o, none⟩ = w1.cell? ⟨k, o, none⟩ := fun k hk o => World.cell?_setCell_other _ _ _ _ (by simp only [ne_eq, Addr.mk.injEq]; omega)
    obtain ⟨f, hf1, hf2⟩ := h1.map
    obtain ⟨cc, hkc⟩ := h1.kc
    refine HQ.out _ g mv' ⟨fun t ht => (hcell _ (by omega)).trans (h1.fst t ht), fun t ht => (hcell _ (by omega)).trans (h1.lst t ht), (hcell _ (by omega)).trans h1.mc, ⟨c1, World.cell?_setCell_same _ _ _ hkc⟩, ⟨f, hf1.setCell (by exact fun e => h1.SM e.symm) _, hf2⟩,
      fun t ht => (h1.seg t ht).frame fun p hp o => hcp p.1 (h1.pS ht hp) o, fun t ht p hp => (h1.blk t ht p hp).setCell _ _, h1.sblk.setCell _ _, ?_, hml, h1.ok, h1.fits⟩ hmv.symm ho hg
    exact hr.only ((Only.refl (fun k => k = S) w1).setCell (p := ⟨S, 129, none⟩) (.inl rfl) _) (fun e => hne e.symm))
  cases hr : rows s with
  | nil =>
    rw [hr] at c0
    have hv : (0 : Nat) = if (rows s).isEmpty then 0 else 1 := by rw [hr]; rfl
    have HV := Lib.hid hv
    have c0' : w.cell? ⟨S, s * 2, none⟩ = some (.pointer none) := c0
    clear c0 hr hv
    go_enter Try.func29, Try.ntmps29
    go_wp2_with fail
    refine hset.out 0 (by decide) _ (by decide) fun w1 A1 c1 ho1 hb1 => ?_
    have hf := hfz.out w1 hb1
    have hk1 := (hb1.cell (p := ⟨S, 129, none⟩) (HH.out.lt S (.inl rfl))).trans ck
    have H1 := Lib.hid (And.intro ho1 hb1)
    clear ho1 hb1
    go_wp2_with fail
    exact ⟨rfl, _, results_none rfl _ _ _, hend.out 0 w1 A1 c1 HV.out H1.out.1 H1.out.2⟩
  | cons p r =>
    rw [hr] at c0
    have hv : (1 : Nat) = if (rows s).isEmpty then 0 else 1 := by rw [hr]; rfl
    have HV := Lib.hid hv
    have c0' : w.cell? ⟨S, s * 2, none⟩ = some (ptr p.1) := c0
    clear c0 hr hv
    go_enter Try.func29, Try.ntmps29
    go_wp2_with fail
    refine hset.out 1 (by decide) _ (by decide) fun w1 A1 c1 ho1 hb1 => ?_
    have hf := hfz.out w1 hb1
    have hk1 := (hb1.cell (p := ⟨S, 129, none⟩) (HH.out.lt S (.inl rfl))).trans ck
    have H1 := Lib.hid (And.intro ho1 hb1)
    clear ho1 hb1
    go_wp2_with fail
    exact ⟨rfl, _, results_none rfl _ _ _, hend.out 1 w1 A1 c1 HV.out H1.out.1 H1.out.2⟩
end Go.Proofs.Ytbhhbddmokddeaa
