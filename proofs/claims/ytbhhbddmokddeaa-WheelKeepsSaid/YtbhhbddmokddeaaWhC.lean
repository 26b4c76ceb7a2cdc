/-
  Drop.
-/
import Derived.Test.YtbhhbddmokddeaaWhB
namespace Go.Proofs.Ytbhhbddmokddeaa
open Go.RowKit Go.Maps

theorem zeroLink (w : World) : (zeroValue 51).run Try.prog w = .ok (.pointer none) w := by kernel_rfl

/-- Where the pointer to what stands behind pre lies. -/
def xAt (S s : Nat) (pre : List Nd) : Nat × Nat := match pre.getLast? with | none => (S, s * 2) | some q => (q.1, 3)
/-- Where the pointer to what stands before post lies. -/
def yAt (S s : Nat) (post : List Nd) : Nat × Nat := match post with | [] => (S, s * 2 + 1) | q :: _ => (q.1, 2)

theorem xAt_nil (S s : Nat) : xAt S s [] = (S, s * 2) := rfl
theorem xAt_last (S s : Nat) (a : List Nd) (q : Nd) : xAt S s (a ++ [q]) = (q.1, 3) := by unfold xAt; rw [List.getLast?_concat]

theorem Rows.ne {rows : Nat → List Nd} (h : Rows rows) {s t : Nat} (hs : s < 64) (ht : t < 64) {p q : Nd} (hp : p ∈ rows s) (hq : q ∈ rows t) (hne : s ≠ t ∨ p ≠ q) : p.1 ≠ q.1 := fun e => by
  obtain ⟨g1, g2⟩ := h.inj s t hs ht p hp q hq e
  rcases hne with h | h
  · exact h g1
  · exact h g2

theorem Whl.unlink {w w' : World} {S M K n mv s L : Nat} {id : Int} {rows : Nat → List Nd} {pre post : List Nd} {f : Int → Option Value} (h : Whl w S M K n rows mv) (hs : s < 64) (hr : rows s = pre ++ (L, id) :: post)
    (c1 : w'.cell? ⟨(xAt S s pre).1, (xAt S s pre).2, none⟩ = some (hdOr post (.pointer none))) (c2 : w'.cell? ⟨(yAt S s post).1, (yAt S s post).2, none⟩ = some (lstOr pre (.pointer none)))
    (hsame : ∀ b o, (b, o) ≠ xAt S s pre → (b, o) ≠ yAt S s post → w'.cell? ⟨b, o, none⟩ = w.cell? ⟨b, o, none⟩) (hblk : ∀ b t, HasBlk w b t → HasBlk w' b t) (hrow : RowIs w' K 34 1 (uvals [mv]))
    (hf1 : ∀ s, s < 64 → ∀ p ∈ rows s, f p.2 = some (ptr p.1)) (hf2 : ∀ i, (∀ s, s < 64 → ∀ p ∈ rows s, p.2 ≠ i) → f i = none)
    (hm : IMap Try.prog 3 w' M n (tot rows - 1) (fun j => if j = id then none else f j)) : Whl w' S M K n (upd rows s (pre ++ post)) mv := by
  have hmem : ∀ p, p ∈ pre ++ post → p ∈ rows s := fun p hp => by
    rw [hr]
    rcases List.mem_append.1 hp with g | g
    · exact List.mem_append.2 (.inl g)
    · exact List.mem_append.2 (.inr (List.mem_cons_of_mem _ g))
  have hnd := h.ok.nd s hs
  rw [hr] at hnd
  have hnd2 : (pre ++ post).Nodup := by
    simp only [List.nodup_append, List.nodup_cons, List.mem_cons] at hnd ⊢
    exact ⟨hnd.1, hnd.2.1.2, fun a ha b hb => hnd.2.2 a ha b (.inr hb)⟩
  have hlin : (L, id) ∈ rows s := by rw [hr]; simp
  -- where X and Y lie
  have hX : (pre = [] ∧ xAt S s pre = (S, s * 2)) ∨ (∃ a q, pre = a ++ [q] ∧ xAt S s pre = (q.1, 3)) := by
    rcases List.eq_nil_or_concat pre with rfl | ⟨a, q, rfl⟩
    · exact .inl ⟨rfl, rfl⟩
    · exact .inr ⟨a, q, by simp, by simpa using xAt_last S s a q⟩
  have hY : (post = [] ∧ yAt S s post = (S, s * 2 + 1)) ∨ (∃ q b, post = q :: b ∧ yAt S s post = (q.1, 2)) := by
    cases post with
    | nil => exact .inl ⟨rfl, rfl⟩
    | cons q b => exact .inr ⟨q, b, rfl, rfl⟩
  have hXm : ∀ a q, pre = a ++ [q] → q ∈ rows s := fun a q e => hmem q (by rw [e]; simp)
  have hYm : ∀ q b, post = q :: b → q ∈ rows s := fun q b e => hmem q (by rw [e]; simp)
  have hS : ∀ o, (S, o) ≠ xAt S s pre → (S, o) ≠ yAt S s post → w'.cell? ⟨S, o, none⟩ = w.cell? ⟨S, o, none⟩ := hsame S
  have hSx : ∀ o, o ≠ s * 2 → (S, o) ≠ xAt S s pre := by
    intro o ho
    rcases hX with ⟨_, e⟩ | ⟨a, q, e1, e⟩
    · rw [e]; intro h; exact ho (Prod.mk.inj h).2
    · rw [e]; intro h'; exact h.pS hs (hXm a q e1) (Prod.mk.inj h').1.symm
  have hSy : ∀ o, o ≠ s * 2 + 1 → (S, o) ≠ yAt S s post := by
    intro o ho
    rcases hY with ⟨_, e⟩ | ⟨q, b, e1, e⟩
    · rw [e]; intro h; exact ho (Prod.mk.inj h).2
    · rw [e]; intro h'; exact h.pS hs (hYm q b e1) (Prod.mk.inj h').1.symm
  -- a node's cell is not X, not Y
  have hnx : ∀ t, t < 64 → ∀ p ∈ rows t, ∀ o, (∀ a q, pre = a ++ [q] → p.1 ≠ q.1 ∨ o ≠ 3) → (p.1, o) ≠ xAt S s pre := by
    intro t ht p hp o hne
    rcases hX with ⟨_, e⟩ | ⟨a, q, e1, e⟩
    · rw [e]; intro h'; exact h.pS ht hp (Prod.mk.inj h').1
    · rw [e]; intro h'
      rcases hne a q e1 with g | g
      · exact g (Prod.mk.inj h').1
      · exact g (Prod.mk.inj h').2
  have hny : ∀ t, t < 64 → ∀ p ∈ rows t, ∀ o, (∀ q b, post = q :: b → p.1 ≠ q.1 ∨ o ≠ 2) → (p.1, o) ≠ yAt S s post := by
    intro t ht p hp o hne
    rcases hY with ⟨_, e⟩ | ⟨q, b, e1, e⟩
    · rw [e]; intro h'; exact h.pS ht hp (Prod.mk.inj h').1
    · rw [e]; intro h'
      rcases hne q b e1 with g | g
      · exact g (Prod.mk.inj h').1
      · exact g (Prod.mk.inj h').2
  have hpne : ∀ p ∈ pre, ∀ q ∈ post, p.1 ≠ q.1 := by
    intro p hp q hq
    refine h.ok.ne hs hs (hmem p (by simp [hp])) (hmem q (by simp [hq])) (.inr ?_)
    rw [List.nodup_append] at hnd2
    exact hnd2.2.2 p hp q hq
  have hsg := h.seg s hs
  rw [hr, Seg.append] at hsg
  obtain ⟨sg1, ⟨_, sg2⟩⟩ := hsg
  obtain ⟨c, hkc⟩ := h.kc
  refine ⟨fun t ht => ?_, fun t ht => ?_, (hS 128 (hSx _ (by omega)) (hSy _ (by omega))).trans h.mc, ⟨c, (hS 129 (hSx _ (by omega)) (hSy _ (by omega))).trans hkc⟩, ⟨fun j => if j = id then none else f j, ?_, ?_, ?_⟩, fun t ht => ?_, fun t ht p hp => ?_, hblk _ _ h.sblk, hrow, h.mlt, h.ok.sub hs hmem hnd2, fun t ht p hp => ?_⟩
  · by_cases e : t = s
    · subst e
      rw [upd_same, hdOr_append]
      rcases hX with ⟨e1, e2⟩ | ⟨a, q, e1, e2⟩
      · rw [e2] at c1
        rw [e1]
        exact c1
      · rw [hS _ (by rw [e2]; intro h'; exact h.pS hs (hXm a q e1) (Prod.mk.inj h').1.symm) (hSy _ (by omega)), h.fst t ht, hr, hdOr_append, e1]
        cases a <;> rfl
    · rw [upd_other _ _ e, hS _ (hSx _ (by omega)) (hSy _ (by omega))]
      exact h.fst t ht
  · by_cases e : t = s
    · subst e
      rw [upd_same, lstOr_append]
      rcases hY with ⟨e1, e2⟩ | ⟨q, b, e1, e2⟩
      · rw [e2] at c2
        rw [e1]
        exact c2
      · rw [hS _ (hSx _ (by omega)) (by rw [e2]; intro h'; exact h.pS hs (hYm q b e1) (Prod.mk.inj h').1.symm), h.lst t ht, hr, lstOr_append, e1]
        rfl
    · rw [upd_other _ _ e, hS _ (hSx _ (by omega)) (hSy _ (by omega))]
      exact h.lst t ht
  · have e := tot_upd (rows := rows) hs (pre ++ post)
    rw [hr] at e
    simp only [List.length_append, List.length_cons] at e
    rw [show tot (upd rows s (pre ++ post)) = tot rows - 1 by omega]
    exact hm
  · intro t ht p hp
    show (if p.2 = id then none else f p.2) = _
    have hp' : p ∈ rows t := by
      unfold upd at hp
      split at hp
      · rename_i e; subst e; exact hmem p hp
      · exact hp
    rw [if_neg]
    · exact hf1 t ht p hp'
    · intro e
      obtain ⟨g1, g2⟩ := h.ok.injI t s ht hs p hp' (L, id) hlin e
      subst g1; subst g2
      rw [upd_same] at hp
      simp only [List.nodup_append, List.nodup_cons, List.mem_cons] at hnd
      rcases List.mem_append.1 hp with g | g
      · exact hnd.2.2 _ g _ (.inl rfl) rfl
      · exact hnd.2.1.1 g
  · intro i hi
    show (if i = id then none else f i) = none
    by_cases e : i = id
    · rw [if_pos e]
    · rw [if_neg e]
      refine hf2 i fun t ht p hp => ?_
      by_cases et : t = s
      · subst et
        rw [hr] at hp
        rcases List.mem_append.1 hp with g | g
        · exact hi t ht p (by rw [upd_same]; simp [g])
        · rcases List.mem_cons.1 g with rfl | g
          · exact fun e' => e e'.symm
          · exact hi t ht p (by rw [upd_same]; simp [g])
      · exact hi t ht p (by rw [upd_other _ _ et]; exact hp)
  · by_cases e : t = s
    · subst e
      rw [upd_same, Seg.append]
      refine ⟨sg1.nx (fun p hp o ho => ?_) (fun a q e1 => ⟨fun p hp => ?_, ?_⟩), sg2.pv (fun p hp o ho => ?_) (fun q b e1 => ⟨fun p hp => ?_, ?_⟩)⟩
      · exact hsame _ _ (hnx t ht p (hmem p (by simp [hp])) o fun _ _ _ => .inr ho) (hny t ht p (hmem p (by simp [hp])) o fun q b e1 => .inl (hpne p hp q (by rw [e1]; simp)))
      · have hpp : p ∈ pre := by rw [e1]; simp [hp]
        have hqq : q ∈ pre := by rw [e1]; simp
        refine hsame _ _ (hnx t ht p (hmem p (by simp [hpp])) 3 fun a' q' e2 => .inl ?_) (hny t ht p (hmem p (by simp [hpp])) 3 fun _ _ _ => .inr (by decide))
        have : q' = q := by
          rw [e1] at e2
          have := List.append_inj_right' e2 (by simp)
          simpa using this.symm
        subst this
        refine h.ok.ne hs hs (hmem p (by simp [hpp])) (hmem q' (by simp [hqq])) (.inr ?_)
        rw [e1, List.append_assoc, List.nodup_append] at hnd2
        exact hnd2.2.2 p hp q' (by simp)
      · rw [e1, xAt_last] at c1
        exact c1
      · exact hsame _ _ (hnx t ht p (hmem p (by simp [hp])) o fun a q e1 => .inl fun e' => hpne q (by rw [e1]; simp) p hp e'.symm) (hny t ht p (hmem p (by simp [hp])) o fun _ _ _ => .inr ho)
      · have hpp : p ∈ post := by rw [e1]; simp [hp]
        refine hsame _ _ (hnx t ht p (hmem p (by simp [hpp])) 2 fun _ _ _ => .inr (by decide)) (hny t ht p (hmem p (by simp [hpp])) 2 fun q' b' e2 => .inl ?_)
        have : q' = q := by
          rw [e1] at e2
          simpa using (List.cons.inj e2).1.symm
        subst this
        refine h.ok.ne hs hs (hmem p (by simp [hpp])) (hYm q' b e1) (.inr ?_)
        rw [e1, List.nodup_append, List.nodup_cons] at hnd2
        exact fun e3 => hnd2.2.1.1 (e3 ▸ hp)
      · rw [e1] at c2
        exact c2
    · rw [upd_other _ _ e]
      refine (h.seg t ht).frame fun p hp o => hsame _ _ (hnx t ht p hp o fun a q e1 => .inl ?_) (hny t ht p hp o fun q b e1 => .inl ?_)
      · exact h.ok.ne ht hs hp (hXm a q e1) (.inl e)
      · exact h.ok.ne ht hs hp (hYm q b e1) (.inl e)
  · unfold upd at hp
    split at hp
    · rename_i e; subst e; exact hblk _ _ (h.blk t ht p (hmem p hp))
    · exact hblk _ _ (h.blk t ht p hp)
  · unfold upd at hp
    split at hp
    · rename_i e; subst e; exact h.fits t ht p (hmem p hp)
    · exact h.fits t ht p hp
end Go.Proofs.Ytbhhbddmokddeaa
