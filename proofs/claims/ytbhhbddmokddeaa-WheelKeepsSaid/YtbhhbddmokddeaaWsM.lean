/-
  Rows of ids: plain laws, no program.
-/
import Derived.Test.YtbhhbddmokddeaaWrD
namespace Go.Proofs.Ytbhhbddmokddeaa
open Go.RowKit Go.Maps

def offL (L : Nat → List Int) (id : Int) : Nat → List Int := fun t => keepL id (L t)

def putL (L : Nat → List Int) (s id : Int) : Nat → List Int := if okA s id then updL (offL L id) s.toNat (offL L id s.toNat ++ [id]) else L

def cutL (L : Nat → List Int) (s : Int) : Nat → List Int := if mayB s then updL L s.toNat [] else L

def rowL (L : Nat → List Int) (s : Int) : List Int := if mayB s then L s.toNat else []

def locL (L : Nat → List Int) (id : Int) : Option Nat := (List.range 64).find? fun s => decide (id ∈ L s)

def nxtL (L : Nat → List Int) (a : Nat) : Option Nat := (List.range 64).find? fun s => decide (a ≤ s) && !(L s).isEmpty

def lenL (L : Nat → List Int) : Nat := sumTo (fun s => (L s).length) 64

structure Good (L : Nat → List Int) : Prop where
  nd : ∀ s, s < 64 → (L s).Nodup
  dis : ∀ s t, s < 64 → t < 64 → ∀ x, x ∈ L s → x ∈ L t → s = t
  fits : ∀ s, s < 64 → ∀ x ∈ L s, (Lit.int .i64 x).wf = true

theorem updL_same (L : Nat → List Int) (s : Nat) (l : List Int) : updL L s l s = l := if_pos rfl
theorem updL_other (L : Nat → List Int) {s t : Nat} (l : List Int) (h : t ≠ s) : updL L s l t = L t := if_neg h

theorem find_range {p : Nat → Bool} {n : Nat} : (List.range n).find? p = none ↔ ∀ q, q < n → p q = false := by
  rw [List.find?_eq_none]
  simp

theorem find_range_some {p : Nat → Bool} {n s : Nat} (h : (List.range n).find? p = some s) : s < n ∧ p s = true ∧ ∀ t, t < s → p t = false := by
  obtain ⟨hp, l1, l2, e, hb⟩ := List.find?_eq_some_iff_append.1 h
  have hs : s < n := by
    have : s ∈ List.range n := by rw [e]; simp
    simpa using this
  refine ⟨hs, hp, fun t ht => ?_⟩
  have h1 : l1.length < n := by
    have := congrArg List.length e
    simp at this
    omega
  have h2 : l1.length = s := by
    have := List.getElem?_append_right (l₁ := l1) (l₂ := s :: l2) (Nat.le_refl l1.length)
    rw [← e, List.getElem?_range h1] at this
    simpa using this
  have h3 : t ∈ l1 := by
    have : (List.range n)[t]? = l1[t]? := by rw [e, List.getElem?_append_left (by omega)]
    rw [List.getElem?_range (by omega)] at this
    exact List.mem_of_getElem? this.symm
  have := hb t h3
  simpa using this

theorem loc_some {L : Nat → List Int} {id : Int} {s : Nat} (h : locL L id = some s) : s < 64 ∧ id ∈ L s ∧ ∀ t, t < s → id ∉ L t := by
  obtain ⟨h1, h2, h3⟩ := find_range_some h
  exact ⟨h1, by simpa using h2, fun t ht => by simpa using h3 t ht⟩

theorem loc_none {L : Nat → List Int} {id : Int} (h : locL L id = none) : ∀ s, s < 64 → id ∉ L s := fun s hs => by
  simpa using find_range.1 h s hs

theorem loc_mem {L : Nat → List Int} (hg : Good L) {id : Int} {s : Nat} (hs : s < 64) (h : id ∈ L s) : locL L id = some s := by
  cases e : locL L id with
  | none => exact absurd h (loc_none e s hs)
  | some t =>
    obtain ⟨h1, h2, _⟩ := loc_some e
    rw [hg.dis t s h1 hs id h2 h]

theorem nxt_some {L : Nat → List Int} {a s : Nat} (h : nxtL L a = some s) : a ≤ s ∧ s < 64 ∧ L s ≠ [] ∧ ∀ t, a ≤ t → t < s → L t = [] := by
  obtain ⟨h1, h2, h3⟩ := find_range_some h
  simp only [Bool.and_eq_true, decide_eq_true_eq, Bool.not_eq_true', List.isEmpty_eq_false_iff] at h2
  refine ⟨h2.1, h1, h2.2, fun t h4 h5 => ?_⟩
  have := h3 t h5
  rw [decide_eq_true h4, Bool.true_and] at this
  simpa using this

theorem nxt_none {L : Nat → List Int} {a : Nat} (h : nxtL L a = none) : ∀ s, a ≤ s → s < 64 → L s = [] := fun s h1 h2 => by
  have := find_range.1 h s h2
  rw [decide_eq_true h1, Bool.true_and] at this
  simpa using this

theorem keepL_out {id : Int} {l : List Int} (h : id ∉ l) : keepL id l = l := by
  unfold keepL
  rw [List.filter_eq_self]
  intro x hx
  simp only [Bool.not_eq_true', beq_eq_false_iff_ne]
  exact fun e => h (e ▸ hx)

theorem dropL_off {L : Nat → List Int} (hg : Good L) (id : Int) : ∀ t, t < 64 → dropL (locL L id) L id t = offL L id t := by
  intro t ht
  unfold dropL offL
  cases e : locL L id with
  | none => exact (keepL_out (loc_none e t ht)).symm
  | some s =>
    obtain ⟨h1, h2, _⟩ := loc_some e
    show updL L s (keepL id (L s)) t = _
    by_cases et : t = s
    · subst et; rw [updL_same]
    · rw [updL_other _ _ et]
      exact (keepL_out fun h => et (hg.dis t s ht h1 id h h2)).symm

theorem find_congr {p q : Nat → Bool} {n : Nat} (h : ∀ j, j < n → p j = q j) : (List.range n).find? p = (List.range n).find? q :=
  by
    have : ∀ l : List Nat, (∀ x ∈ l, p x = q x) → l.find? p = l.find? q := by
      intro l
      induction l with
      | nil => intro _; rfl
      | cons a r ih =>
        intro h
        rw [List.find?_cons, List.find?_cons, h a (by simp), ih fun x hx => h x (by simp [hx])]
    exact this _ fun x hx => h x (by simpa using hx)

/-! from rows of links -/

theorem ids_without (rows : Nat → List Nd) (id : Int) (t : Nat) : ids (without rows id t) = keepL id (ids (rows t)) := by
  unfold ids without keepL
  rw [List.filter_map]
  rfl

theorem ids_upd (rows : Nat → List Nd) (s : Nat) (l : List Nd) (t : Nat) : ids (upd rows s l t) = updL (fun t => ids (rows t)) s (ids l) t := by
  unfold upd updL
  split <;> rfl

theorem ids_empty (l : List Nd) : (ids l).isEmpty = l.isEmpty := by cases l <;> rfl
theorem ids_len (l : List Nd) : (ids l).length = l.length := by unfold ids; simp

theorem maskL_ids (rows : Nat → List Nd) : maskOf rows = maskL (fun t => ids (rows t)) 0 64 := ofB_congr fun _ _ => by rw [Nat.zero_add, ids_empty]

theorem lenL_ids (rows : Nat → List Nd) : tot rows = lenL fun t => ids (rows t) := sumTo_congr fun _ _ => (ids_len _).symm

theorem nxtL_ids (rows : Nat → List Nd) (a : Nat) : nextB [maskOf rows] a = nxtL (fun t => ids (rows t)) a := by
  unfold nextB nxtL
  refine find_congr fun j hj => ?_
  have hj' : j < 64 := by simpa using hj
  rw [bitAt_one hj', testBit_maskOf hj', ids_empty]

theorem hasId_ids (rows : Nat → List Nd) (id : Int) : hasId rows id = (locL (fun t => ids (rows t)) id).isSome := by
  cases e : locL (fun t => ids (rows t)) id with
  | none =>
    cases e2 : hasId rows id with
    | false => rfl
    | true =>
      obtain ⟨s, hs, p, hp, e3⟩ := hasId_iff.1 e2
      exact absurd (by rw [← e3]; exact List.mem_map_of_mem hp) (loc_none e s hs)
  | some s =>
    obtain ⟨h1, h2, _⟩ := loc_some e
    obtain ⟨p, hp, e3⟩ := List.mem_map.1 h2
    exact hasId_iff.2 ⟨s, h1, p, hp, e3⟩

theorem good_ids {rows : Nat → List Nd} (h : Rows rows) (hf : ∀ s, s < 64 → ∀ p ∈ rows s, (Lit.int .i64 p.2).wf = true) : Good fun t => ids (rows t) := by
  refine ⟨fun s hs => ?_, fun s t hs ht x hx hy => ?_, fun s hs x hx => ?_⟩
  · unfold ids
    rw [List.nodup_iff_pairwise_ne, List.pairwise_map]
    have := h.nd s hs
    rw [List.nodup_iff_pairwise_ne] at this
    refine this.imp_of_mem fun {a b} ha hb hne e => hne (h.injI s s hs hs a ha b hb e).2
  · obtain ⟨p, hp, e1⟩ := List.mem_map.1 hx
    obtain ⟨q, hq, e2⟩ := List.mem_map.1 hy
    exact (h.injI s t hs ht p hp q hq (e1.trans e2.symm)).1
  · obtain ⟨p, hp, rfl⟩ := List.mem_map.1 hx
    exact hf s hs p hp

theorem len_le_lenL (L : Nat → List Int) {s : Nat} (hs : s < 64) : (L s).length ≤ lenL L := by
  unfold lenL
  have : ∀ n, s < n → (L s).length ≤ sumTo (fun s => (L s).length) n := by
    intro n
    induction n with
    | zero => intro h; omega
    | succ n ih =>
      intro h
      rw [sumTo]
      by_cases e : s = n
      · subst e; omega
      · have := ih (by omega); omega
  exact this 64 hs

theorem lenL_congr {L L' : Nat → List Int} (h : ∀ t, t < 64 → L' t = L t) : lenL L' = lenL L := sumTo_congr fun j hj => by rw [h j hj]
end Go.Proofs.Ytbhhbddmokddeaa
