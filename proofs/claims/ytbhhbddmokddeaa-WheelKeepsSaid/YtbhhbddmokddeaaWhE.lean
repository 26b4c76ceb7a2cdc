/-
  Drop of any id; a link put at its row's end.
-/
import Derived.Test.YtbhhbddmokddeaaWhD
namespace Go.Proofs.Ytbhhbddmokddeaa
open Go.RowKit Go.Maps

def without (rows : Nat → List Nd) (id : Int) : Nat → List Nd := fun t => (rows t).filter fun p => !(p.2 == id)

def hasId (rows : Nat → List Nd) (id : Int) : Bool := (List.range 64).any fun s => (rows s).any fun p => p.2 == id

theorem hasId_iff {rows : Nat → List Nd} {id : Int} : hasId rows id = true ↔ ∃ s, s < 64 ∧ ∃ p ∈ rows s, p.2 = id := by
  simp [hasId]

theorem maskOf_congr {rows rows' : Nat → List Nd} (e : ∀ t, t < 64 → rows' t = rows t) : maskOf rows' = maskOf rows := ofB_congr fun j hj => by rw [e j hj]

theorem tot_congr {rows rows' : Nat → List Nd} (e : ∀ t, t < 64 → rows' t = rows t) : tot rows' = tot rows := sumTo_congr fun j hj => by rw [e j hj]

theorem Whl.congr {w : World} {S M K n mv : Nat} {rows rows' : Nat → List Nd} (h : Whl w S M K n rows mv) (e : ∀ t, t < 64 → rows' t = rows t) : Whl w S M K n rows' mv := by
  obtain ⟨f, hm, hf1, hf2⟩ := h.map
  refine ⟨fun s hs => by rw [e s hs]; exact h.fst s hs, fun s hs => by rw [e s hs]; exact h.lst s hs, h.mc, h.kc, ⟨f, by rw [tot_congr e]; exact hm, fun s hs p hp => hf1 s hs p (by rw [← e s hs]; exact hp), fun i hi => hf2 i fun s hs p hp => hi s hs p (by rw [e s hs]; exact hp)⟩,
    fun s hs => by rw [e s hs]; exact h.seg s hs, fun s hs p hp => h.blk s hs p (by rw [← e s hs]; exact hp), h.sblk, h.row, h.mlt, ⟨fun s t hs ht p hp q hq => h.ok.inj s t hs ht p (by rw [← e s hs]; exact hp) q (by rw [← e t ht]; exact hq), fun s t hs ht p hp q hq => h.ok.injI s t hs ht p (by rw [← e s hs]; exact hp) q (by rw [← e t ht]; exact hq), fun s hs => by rw [e s hs]; exact h.ok.nd s hs⟩, fun s hs p hp => h.fits s hs p (by rw [← e s hs]; exact hp)⟩

theorem without_in {rows : Nat → List Nd} (h : Rows rows) {s L : Nat} {id : Int} {pre post : List Nd} (hs : s < 64) (hr : rows s = pre ++ (L, id) :: post) : ∀ t, t < 64 → without rows id t = upd rows s (pre ++ post) t := by
  intro t ht
  have hlin : (L, id) ∈ rows s := by rw [hr]; simp
  have hnd := h.nd s hs
  rw [hr] at hnd
  unfold without
  have key : ∀ p ∈ rows t, p.2 = id → t = s ∧ p = (L, id) := fun p hp e => h.injI t s ht hs p hp (L, id) hlin e
  by_cases e : t = s
  · subst e
    rw [upd_same, hr, List.filter_append, List.filter_cons]
    have h1 : ∀ l : List Nd, (∀ p ∈ l, p ∈ rows t ∧ p ≠ (L, id)) → l.filter (fun p => !(p.2 == id)) = l := by
      intro l hl
      rw [List.filter_eq_self]
      intro p hp
      have := hl p hp
      simp only [Bool.not_eq_true', beq_eq_false_iff_ne]
      exact fun e => this.2 (key p this.1 e).2
    simp only [List.nodup_append, List.nodup_cons, List.mem_cons] at hnd
    rw [h1 pre fun p hp => ⟨by rw [hr]; simp [hp], fun e => hnd.2.2 p hp _ (.inl rfl) e⟩, h1 post fun p hp => ⟨by rw [hr]; simp [hp], fun e => hnd.2.1.1 (e ▸ hp)⟩]
    simp
  · rw [upd_other _ _ e, List.filter_eq_self]
    intro p hp
    simp only [Bool.not_eq_true', beq_eq_false_iff_ne]
    exact fun e' => e (key p hp e').1

theorem without_out {rows : Nat → List Nd} {id : Int} (h : hasId rows id = false) : ∀ t, t < 64 → without rows id t = rows t := by
  intro t ht
  unfold without
  rw [List.filter_eq_self]
  intro p hp
  simp only [Bool.not_eq_true', beq_eq_false_iff_ne]
  intro e
  rw [hasId_iff.2 ⟨t, ht, p, hp, e⟩] at h
  cases h

theorem drop_out {w : World} {S M K n mv : Nat} {id : Int} {rows : Nat → List Nd} (h : Whl w S M K n rows mv) (hid : hasId rows id = false) (hi : (Lit.int .i64 id).wf = true) (Q : Ending → World → Prop)
    (hQ : Q (.returned (.bool false)) w) :
    Calls Try.prog 16 #[ptr S, .int .i64 id] w Q := by
  obtain ⟨f, hm, _, hf2⟩ := h.map
  have c1 := h.mc
  have HF := Lib.hid (hf2 id fun s hs p hp e => by
    rw [hasId_iff.2 ⟨s, hs, p, hp, e⟩] at hid
    cases hid)
  have HM0 := Lib.hid hm
  clear hm hf2 h hid
  go_enter Try.func16, Try.ntmps16
  go_wp2_with (first
    | (at_lookup; refine wpList_look_miss _ rfl _ _ 49 rfl 3 51 Try.underlying3 Try.underlying49 (zeroLink _) M n _ f rfl HM0.out id rfl hi HF.out ?_))
  exact hQ

theorem drop_nil {w : World} {id : Int} (Q : Ending → World → Prop) (hQ : Q (.returned (.bool false)) w) :
    Calls Try.prog 16 #[.pointer none, .int .i64 id] w Q := by
  go_enter Try.func16, Try.ntmps16
  go_wp2
  exact hQ

theorem drop_any {w : World} {S M K n : Nat} {id : Int} {rows : Nat → List Nd} (h : Whl w S M K n rows (maskOf rows)) (hi : (Lit.int .i64 id).wf = true) (Q : Ending → World → Prop)
    (hQ : ∀ w' K', Whl w' S M K' n (without rows id) (maskOf (without rows id)) → Only (Foot S M K rows) w w' → (K' = K ∨ w.heap.size ≤ K') → Q (.returned (.bool (hasId rows id))) w') :
    Calls Try.prog 16 #[ptr S, .int .i64 id] w Q := by
  cases hb : hasId rows id with
  | false =>
    rw [hb] at hQ
    have e := without_out hb
    exact drop_out h hb hi Q (hQ w K (by rw [maskOf_congr e]; exact h.congr e) (Only.refl _ _) (.inl rfl))
  | true =>
    rw [hb] at hQ
    obtain ⟨s, hs, ⟨L, id'⟩, hp, e⟩ := hasId_iff.1 hb
    obtain rfl : id' = id := e
    obtain ⟨pre, post, hr⟩ := List.append_of_mem hp
    have e := without_in h.ok hs hr
    exact drop_in h hs hr Q fun w' K' h' ho hk => hQ w' K' (by rw [maskOf_congr e]; exact h'.congr e) ho (.inr hk)

/-! ### a link at the end -/

theorem Whl.link {w w' : World} {S M K n mv s g : Nat} {id : Int} {rows : Nat → List Nd} {f : Int → Option Value} (h : Whl w S M K n rows mv) (hs : s < 64) (hg : ¬ Foot S M K rows g) (hid : ∀ t, t < 64 → ∀ p ∈ rows t, p.2 ≠ id) (hi : (Lit.int .i64 id).wf = true)
    (g0 : w'.cell? ⟨g, 0, none⟩ = some (.int .i64 id)) (g1 : w'.cell? ⟨g, 1, none⟩ = some (.int .i64 (s : Int))) (g2 : w'.cell? ⟨g, 2, none⟩ = some (lstOr (rows s) (.pointer none))) (g3 : w'.cell? ⟨g, 3, none⟩ = some (.pointer none))
    (c1 : w'.cell? ⟨(xAt S s (rows s)).1, (xAt S s (rows s)).2, none⟩ = some (ptr g)) (c2 : w'.cell? ⟨S, s * 2 + 1, none⟩ = some (ptr g))
    (hsame : ∀ b o, b ≠ g → (b, o) ≠ xAt S s (rows s) → (b, o) ≠ (S, s * 2 + 1) → w'.cell? ⟨b, o, none⟩ = w.cell? ⟨b, o, none⟩) (hblk : ∀ b t, HasBlk w b t → b ≠ g → HasBlk w' b t) (hgb : HasBlk w' g 59) (hrow : RowIs w' K 34 1 (uvals [mv]))
    (hf1 : ∀ s, s < 64 → ∀ p ∈ rows s, f p.2 = some (ptr p.1)) (hf2 : ∀ i, (∀ s, s < 64 → ∀ p ∈ rows s, p.2 ≠ i) → f i = none)
    (hm : IMap Try.prog 3 w' M (n + 1) (tot rows + 1) (fun j => if j = id then some (ptr g) else f j)) : Whl w' S M K (n + 1) (upd rows s (rows s ++ [(g, id)])) mv := by
  have hgS : S ≠ g := fun e => hg (.inl e.symm)
  have hgp : ∀ t, t < 64 → ∀ p ∈ rows t, p.1 ≠ g := fun t ht p hp e => hg (.inr (.inr (.inr ⟨t, ht, p, hp, e.symm⟩)))
  have hX : (rows s = [] ∧ xAt S s (rows s) = (S, s * 2)) ∨ (∃ a q, rows s = a ++ [q] ∧ xAt S s (rows s) = (q.1, 3)) := by
    rcases List.eq_nil_or_concat (rows s) with e | ⟨a, q, e⟩
    · exact .inl ⟨e, by rw [e]; rfl⟩
    · rw [List.concat_eq_append] at e
      exact .inr ⟨a, q, e, by rw [e]; exact xAt_last S s a q⟩
  have hXm : ∀ a q, rows s = a ++ [q] → q ∈ rows s := fun a q e => by rw [e]; simp
  have hSx : ∀ o, o ≠ s * 2 → (S, o) ≠ xAt S s (rows s) := by
    intro o ho
    rcases hX with ⟨_, e⟩ | ⟨a, q, e1, e⟩
    · rw [e]; intro h'; exact ho (Prod.mk.inj h').2
    · rw [e]; intro h'; exact h.pS hs (hXm a q e1) (Prod.mk.inj h').1.symm
  have hSy : ∀ o, o ≠ s * 2 + 1 → (S, o) ≠ (S, s * 2 + 1) := fun o ho h' => ho (Prod.mk.inj h').2
  have hny : ∀ t, t < 64 → ∀ p ∈ rows t, ∀ o, (p.1, o) ≠ (S, s * 2 + 1) := fun t ht p hp o h' => h.pS ht hp (Prod.mk.inj h').1
  have hnx : ∀ t, t < 64 → ∀ p ∈ rows t, ∀ o, (∀ a q, rows s = a ++ [q] → p.1 ≠ q.1 ∨ o ≠ 3) → (p.1, o) ≠ xAt S s (rows s) := by
    intro t ht p hp o hne
    rcases hX with ⟨_, e⟩ | ⟨a, q, e1, e⟩
    · rw [e]; intro h'; exact h.pS ht hp (Prod.mk.inj h').1
    · rw [e]; intro h'
      rcases hne a q e1 with g | g
      · exact g (Prod.mk.inj h').1
      · exact g (Prod.mk.inj h').2
  have hS := fun o => hsame S o hgS
  have hnd := h.ok.nd s hs
  obtain ⟨c, hkc⟩ := h.kc
  have hmem : ∀ t p, t < 64 → p ∈ upd rows s (rows s ++ [(g, id)]) t → p ∈ rows t ∨ (t = s ∧ p = (g, id)) := by
    intro t p _ hp
    unfold upd at hp
    split at hp
    · rename_i e; subst e
      rcases List.mem_append.1 hp with hp | hp
      · exact .inl hp
      · exact .inr ⟨rfl, by simpa using hp⟩
    · exact .inl hp
  refine ⟨fun t ht => ?_, fun t ht => ?_, (hS 128 (hSx _ (by omega)) (hSy _ (by omega))).trans h.mc, ⟨c, (hS 129 (hSx _ (by omega)) (hSy _ (by omega))).trans hkc⟩, ⟨fun j => if j = id then some (ptr g) else f j, ?_, ?_, ?_⟩, fun t ht => ?_, fun t ht p hp => ?_, hblk _ _ h.sblk hgS, hrow, h.mlt, h.ok.add hs (fun t ht p hp => hgp t ht p hp) hid, fun t ht p hp => ?_⟩
  · by_cases e : t = s
    · subst e
      rw [upd_same, hdOr_append]
      rcases hX with ⟨e1, e2⟩ | ⟨a, q, e1, e2⟩
      · rw [e2] at c1
        rw [e1]
        exact c1
      · rw [hS _ (by rw [e2]; intro h'; exact h.pS hs (hXm a q e1) (Prod.mk.inj h').1.symm) (hSy _ (by omega)), h.fst t ht, e1]
        cases a <;> rfl
    · rw [upd_other _ _ e, hS _ (hSx _ (by omega)) (hSy _ (by omega))]
      exact h.fst t ht
  · by_cases e : t = s
    · subst e
      rw [upd_same, lstOr_append]
      exact c2
    · rw [upd_other _ _ e, hS _ (hSx _ (by omega)) (hSy _ (by omega))]
      exact h.lst t ht
  · have e := tot_upd (rows := rows) hs (rows s ++ [(g, id)])
    simp only [List.length_append, List.length_cons, List.length_nil] at e
    rw [show tot (upd rows s (rows s ++ [(g, id)])) = tot rows + 1 by omega]
    exact hm
  · intro t ht p hp
    show (if p.2 = id then some (ptr g) else f p.2) = _
    rcases hmem t p ht hp with hp | ⟨_, rfl⟩
    · rw [if_neg (hid t ht p hp)]
      exact hf1 t ht p hp
    · rw [if_pos rfl]
  · intro i hi'
    show (if i = id then some (ptr g) else f i) = none
    rw [if_neg (fun e => hi' s hs (g, id) (by rw [upd_same]; simp) e.symm)]
    refine hf2 i fun t ht p hp => hi' t ht p ?_
    by_cases e : t = s
    · subst e; rw [upd_same]; simp [hp]
    · rw [upd_other _ _ e]; exact hp
  · by_cases e : t = s
    · subst e
      rw [upd_same, Seg.append]
      refine ⟨(h.seg t ht).nx (fun p hp o ho => hsame _ _ (hgp t ht p hp) (hnx t ht p hp o fun _ _ _ => .inr ho) (hny t ht p hp o)) (fun a q e1 => ⟨fun p hp => ?_, ?_⟩), ⟨g0, g1, g2, g3⟩, trivial⟩
      · have hpp : p ∈ rows t := by rw [e1]; simp [hp]
        refine hsame _ _ (hgp t ht p hpp) (hnx t ht p hpp 3 fun a' q' e2 => .inl ?_) (hny t ht p hpp 3)
        have : q' = q := by
          rw [e1] at e2
          have := List.append_inj_right' e2 (by simp)
          simpa using this.symm
        subst this
        refine h.ok.ne hs hs hpp (hXm a' q' e2) (.inr ?_)
        rw [e1, List.nodup_append] at hnd
        exact hnd.2.2 p hp q' (by simp)
      · rw [e1, xAt_last] at c1
        exact c1
    · rw [upd_other _ _ e]
      exact (h.seg t ht).frame fun p hp o => hsame _ _ (hgp t ht p hp) (hnx t ht p hp o fun a q e1 => .inl (h.ok.ne ht hs hp (hXm a q e1) (.inl e))) (hny t ht p hp o)
  · rcases hmem t p ht hp with hp | ⟨_, rfl⟩
    · exact hblk _ _ (h.blk t ht p hp) (hgp t ht p hp)
    · exact hgb
  · rcases hmem t p ht hp with hp | ⟨_, rfl⟩
    · exact h.fits t ht p hp
    · exact hi
end Go.Proofs.Ytbhhbddmokddeaa
