/-
  Rows of links, each between two others: plain laws, no program.
-/
import Derived.Test.YtbhhbddmokddeaaBtD
namespace Go.Proofs.Ytbhhbddmokddeaa
open Go.RowKit

/-- A link: its block, its id. -/
abbrev Nd := Nat × Int

def hdOr : List Nd → Value → Value
  | [], v => v
  | p :: _, _ => ptr p.1

def lstOr : List Nd → Value → Value
  | [], v => v
  | p :: r, _ => lstOr r (ptr p.1)

theorem hdOr_append (a b : List Nd) (v : Value) : hdOr (a ++ b) v = hdOr a (hdOr b v) := by cases a <;> rfl

theorem lstOr_append : ∀ (a b : List Nd) (v : Value), lstOr (a ++ b) v = lstOr b (lstOr a v)
  | [], _, _ => rfl
  | p :: r, b, _ => lstOr_append r b (ptr p.1)

/-- A stretch of a row: before it stands pv, behind it nx. -/
def Seg (c : Nat → Nat → Option Value) (s : Int) : Value → List Nd → Value → Prop
  | _, [], _ => True
  | pv, p :: r, nx => (c p.1 0 = some (.int .i64 p.2) ∧ c p.1 1 = some (.int .i64 s) ∧ c p.1 2 = some pv ∧ c p.1 3 = some (hdOr r nx)) ∧ Seg c s (ptr p.1) r nx

section
variable {c c' : Nat → Nat → Option Value} {s : Int}

theorem Seg.append : ∀ {a b : List Nd} {pv nx : Value}, Seg c s pv (a ++ b) nx ↔ Seg c s pv a (hdOr b nx) ∧ Seg c s (lstOr a pv) b nx
  | [], b, pv, nx => by simp [Seg, lstOr]
  | p :: r, b, pv, nx => by
    show ((_ ∧ _ ∧ _ ∧ c p.1 3 = some (hdOr (r ++ b) nx)) ∧ Seg c s (ptr p.1) (r ++ b) nx) ↔ (_ ∧ Seg c s (ptr p.1) r (hdOr b nx)) ∧ Seg c s (lstOr r (ptr p.1)) b nx
    rw [Seg.append, hdOr_append]
    exact ⟨fun ⟨g1, g2, g3⟩ => ⟨⟨g1, g2⟩, g3⟩, fun ⟨⟨g1, g2⟩, g3⟩ => ⟨g1, g2, g3⟩⟩

theorem Seg.frame : ∀ {l : List Nd} {pv nx : Value}, Seg c s pv l nx → (∀ p ∈ l, ∀ o, c' p.1 o = c p.1 o) → Seg c' s pv l nx
  | [], _, _, _, _ => trivial
  | p :: r, pv, nx, h, hc => by
    obtain ⟨⟨h0, h1, h2, h3⟩, hr⟩ := h
    have e := hc p (by simp)
    exact ⟨⟨(e 0).trans h0, (e 1).trans h1, (e 2).trans h2, (e 3).trans h3⟩, hr.frame fun q hq => hc q (by simp [hq])⟩

/-- Another value stands behind it: the last one's cell 3 has been set. -/
theorem Seg.nx : ∀ {l : List Nd} {pv nx nx' : Value}, Seg c s pv l nx → (∀ p ∈ l, ∀ o, o ≠ 3 → c' p.1 o = c p.1 o) → (∀ a q, l = a ++ [q] → (∀ p ∈ a, c' p.1 3 = c p.1 3) ∧ c' q.1 3 = some nx') → Seg c' s pv l nx'
  | [], _, _, _, _, _, _ => trivial
  | p :: r, pv, nx, nx', h, hc, hl => by
    obtain ⟨⟨h0, h1, h2, h3⟩, hr⟩ := h
    have e := hc p (by simp)
    refine ⟨⟨(e 0 (by decide)).trans h0, (e 1 (by decide)).trans h1, (e 2 (by decide)).trans h2, ?_⟩, hr.nx (fun q hq => hc q (by simp [hq])) fun a q hq => ?_⟩
    · cases r with
      | nil => exact (hl [] p rfl).2
      | cons p2 r2 =>
        have hne : (p2 :: r2) ≠ [] := by simp
        have := (hl (p :: (p2 :: r2).dropLast) ((p2 :: r2).getLast hne) (by rw [List.cons_append, List.dropLast_concat_getLast])).1 p (by simp)
        rw [this]
        exact h3
    · obtain ⟨g1, g2⟩ := hl (p :: a) q (by rw [hq]; rfl)
      exact ⟨fun x hx => g1 x (by simp [hx]), g2⟩

/-- Another value stands before it: the first one's cell 2 has been set. -/
theorem Seg.pv {l : List Nd} {pv pv' nx : Value} (h : Seg c s pv l nx) (hc : ∀ p ∈ l, ∀ o, o ≠ 2 → c' p.1 o = c p.1 o) (hl : ∀ q b, l = q :: b → (∀ p ∈ b, c' p.1 2 = c p.1 2) ∧ c' q.1 2 = some pv') : Seg c' s pv' l nx := by
  cases l with
  | nil => trivial
  | cons p r =>
    obtain ⟨⟨h0, h1, h2, h3⟩, hr⟩ := h
    have e := hc p (by simp)
    obtain ⟨g1, g2⟩ := hl p r rfl
    refine ⟨⟨(e 0 (by decide)).trans h0, (e 1 (by decide)).trans h1, g2, (e 3 (by decide)).trans h3⟩, hr.frame fun q hq o => ?_⟩
    by_cases ho : o = 2
    · subst ho; exact g1 q hq
    · exact hc q (by simp [hq]) o ho
end

/-! ### all rows -/

def upd (rows : Nat → List Nd) (s : Nat) (l : List Nd) : Nat → List Nd := fun t => if t = s then l else rows t

theorem upd_same (rows : Nat → List Nd) (s : Nat) (l : List Nd) : upd rows s l s = l := if_pos rfl
theorem upd_other (rows : Nat → List Nd) {s t : Nat} (l : List Nd) (h : t ≠ s) : upd rows s l t = rows t := if_neg h

structure Rows (rows : Nat → List Nd) : Prop where
  inj : ∀ s t, s < 64 → t < 64 → ∀ p ∈ rows s, ∀ q ∈ rows t, p.1 = q.1 → s = t ∧ p = q
  injI : ∀ s t, s < 64 → t < 64 → ∀ p ∈ rows s, ∀ q ∈ rows t, p.2 = q.2 → s = t ∧ p = q
  nd : ∀ s, s < 64 → (rows s).Nodup

theorem Rows.sub {rows : Nat → List Nd} (h : Rows rows) {s : Nat} {l : List Nd} (hs : s < 64) (hl : ∀ p ∈ l, p ∈ rows s) (hn : l.Nodup) : Rows (upd rows s l) := by
  have hm : ∀ t, t < 64 → ∀ p, p ∈ upd rows s l t → p ∈ rows t := by
    intro t _ p hp
    unfold upd at hp
    split at hp
    · rename_i e; subst e; exact hl p hp
    · exact hp
  refine ⟨fun a b ha hb p hp q hq e => h.inj a b ha hb p (hm a ha p hp) q (hm b hb q hq) e, fun a b ha hb p hp q hq e => h.injI a b ha hb p (hm a ha p hp) q (hm b hb q hq) e, fun t ht => ?_⟩
  unfold upd
  split
  · exact hn
  · exact h.nd t ht

theorem Rows.add {rows : Nat → List Nd} (h : Rows rows) {s : Nat} {x : Nd} (hs : s < 64) (hb : ∀ t, t < 64 → ∀ p ∈ rows t, p.1 ≠ x.1) (hi : ∀ t, t < 64 → ∀ p ∈ rows t, p.2 ≠ x.2) : Rows (upd rows s (rows s ++ [x])) := by
  have hm : ∀ t, t < 64 → ∀ p, p ∈ upd rows s (rows s ++ [x]) t → p ∈ rows t ∨ (t = s ∧ p = x) := by
    intro t _ p hp
    unfold upd at hp
    split at hp
    · rename_i e; subst e
      rcases List.mem_append.1 hp with hp | hp
      · exact .inl hp
      · exact .inr ⟨rfl, by simpa using hp⟩
    · exact .inl hp
  refine ⟨fun a b ha hb' p hp q hq e => ?_, fun a b ha hb' p hp q hq e => ?_, fun t ht => ?_⟩
  · rcases hm a ha p hp with g1 | ⟨g1, rfl⟩
    · rcases hm b hb' q hq with g2 | ⟨g2, rfl⟩
      · exact h.inj a b ha hb' p g1 q g2 e
      · exact absurd e (hb a ha p g1)
    · rcases hm b hb' q hq with g2 | ⟨g2, rfl⟩
      · exact absurd e.symm (hb b hb' q g2)
      · exact ⟨g1.trans g2.symm, rfl⟩
  · rcases hm a ha p hp with g1 | ⟨g1, rfl⟩
    · rcases hm b hb' q hq with g2 | ⟨g2, rfl⟩
      · exact h.injI a b ha hb' p g1 q g2 e
      · exact absurd e (hi a ha p g1)
    · rcases hm b hb' q hq with g2 | ⟨g2, rfl⟩
      · exact absurd e.symm (hi b hb' q g2)
      · exact ⟨g1.trans g2.symm, rfl⟩
  · unfold upd
    split
    · rename_i e; subst e
      rw [List.nodup_append]
      refine ⟨h.nd t ht, by simp, fun a ha b hb' => ?_⟩
      obtain rfl : b = x := by simpa using hb'
      exact fun e => hb t ht a ha (by rw [e])
    · exact h.nd t ht

def sumTo (f : Nat → Nat) : Nat → Nat
  | 0 => 0
  | n + 1 => sumTo f n + f n

theorem sumTo_congr {f g : Nat → Nat} : ∀ {n}, (∀ j, j < n → f j = g j) → sumTo f n = sumTo g n
  | 0, _ => rfl
  | n + 1, h => by rw [sumTo, sumTo, sumTo_congr fun j hj => h j (by omega), h n (by omega)]

theorem sumTo_mend {f g : Nat → Nat} {s : Nat} : ∀ {n}, s < n → (∀ j, j < n → j ≠ s → g j = f j) → sumTo g n + f s = sumTo f n + g s
  | n + 1, hs, h => by
    rw [sumTo, sumTo]
    by_cases e : s = n
    · subst e
      rw [sumTo_congr (f := g) (g := f) fun j hj => h j (by omega) (by omega)]
      omega
    · have := sumTo_mend (f := f) (g := g) (s := s) (n := n) (by omega) fun j hj hne => h j (by omega) hne
      rw [h n (by omega) (fun e' => e e'.symm)]
      omega

def tot (rows : Nat → List Nd) : Nat := sumTo (fun s => (rows s).length) 64

theorem tot_upd {rows : Nat → List Nd} {s : Nat} (hs : s < 64) (l : List Nd) : tot (upd rows s l) + (rows s).length = tot rows + l.length := by
  have := sumTo_mend (f := fun s => (rows s).length) (g := fun t => (upd rows s l t).length) (s := s) (n := 64) hs fun j _ hne => by
    show (upd rows s l j).length = _
    rw [upd_other _ _ hne]
  rw [upd_same] at this
  exact this

/-! ### the mask -/

def maskOf (rows : Nat → List Nd) : Nat := ofB (fun s => !(rows s).isEmpty) 64

theorem maskOf_lt (rows : Nat → List Nd) : maskOf rows < 2 ^ 64 := ofB_lt _ _

theorem bitAt_one {m i : Nat} (hi : i < 64) : bitAt [m] i = m.testBit i := by
  unfold bitAt
  rw [show i / 64 = 0 by omega, show i % 64 = i by omega]
  rfl

theorem testBit_maskOf {rows : Nat → List Nd} {s : Nat} (hs : s < 64) : (maskOf rows).testBit s = !(rows s).isEmpty := by
  unfold maskOf
  rw [testBit_ofB, decide_eq_true hs, Bool.true_and]

theorem mark_law {rows : Nat → List Nd} {mv s : Nat} (hs : s < 64) (h : ∀ t, t < 64 → t ≠ s → mv.testBit t = !(rows t).isEmpty) : setF [mv] s 1 (if (rows s).isEmpty then 0 else 1) = [maskOf rows] := by
  refine words_ext (by rw [setF_length]; rfl) (setF_bnd _ _ _ _) (fun x hx => ?_) fun i hi => ?_
  · obtain rfl : x = maskOf rows := by simpa using hx
    exact maskOf_lt rows
  · rw [setF_length] at hi
    have hi' : i < 64 := hi
    rw [bitAt_setF _ _ _ _ _ (show s + 1 ≤ 64 * 1 by omega), bitAt_one hi', bitAt_one hi', testBit_maskOf hi']
    by_cases e : i = s
    · subst e
      rw [if_pos (by omega), Nat.sub_self]
      cases (rows i).isEmpty <;> rfl
    · rw [if_neg (by omega), h i hi' e]
end Go.Proofs.Ytbhhbddmokddeaa
