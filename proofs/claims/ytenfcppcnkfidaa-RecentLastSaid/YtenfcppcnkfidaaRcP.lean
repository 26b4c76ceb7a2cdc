/-
  A ring of links in memory, as a path of block numbers: what happens to it when a link is taken out or put in. No program here.
-/
import Derived.Test.YtenfcppcnkfidaaKit
namespace Go.Proofs.Ytenfcppcnkfidaa
open Go.RowKit Go.Maps

/-- a's newer one is b, and b's older one is a. -/
def Lnk (c : Nat → Nat → Option Value) (a b : Nat) : Prop := c a 2 = some (ptr b) ∧ c b 1 = some (ptr a)

def Path (c : Nat → Nat → Option Value) : Nat → List Nat → Nat → Prop
  | a, [], z => Lnk c a z
  | a, b :: r, z => Lnk c a b ∧ Path c b r z

section
variable {c c' : Nat → Nat → Option Value}

theorem Path.frame : ∀ {r : List Nat} {a z : Nat}, Path c a r z → (∀ u ∈ a :: r, c' u 2 = c u 2) → (∀ u ∈ r, c' u 1 = c u 1) → c' z 1 = c z 1 → Path c' a r z
  | [], a, z, h, h2, _, hz => ⟨(h2 a (by simp)).trans h.1, hz.trans h.2⟩
  | b :: r, a, z, h, h2, h1, hz => ⟨⟨(h2 a (by simp)).trans h.1.1, (h1 b (by simp)).trans h.1.2⟩,
      Path.frame h.2 (fun u hu => h2 u (by simp only [List.mem_cons] at hu ⊢; exact .inr hu)) (fun u hu => h1 u (by simp [hu])) hz⟩

theorem Path.split : ∀ {xs : List Nat} {a b z : Nat} {ys : List Nat}, Path c a (xs ++ b :: ys) z → Path c a xs b ∧ Path c b ys z
  | [], _, _, _, _, h => ⟨h.1, h.2⟩
  | _ :: xs, _, _, _, _, h => ⟨⟨h.1, (Path.split (xs := xs) h.2).1⟩, (Path.split (xs := xs) h.2).2⟩

/-- The first one behind a. -/
theorem Path.first : ∀ {r : List Nat} {a z : Nat}, Path c a r z → c a 2 = some (ptr (r.headD z))
  | [], _, _, h => h.1
  | _ :: _, _, _, h => h.1.1

/-- The last one ahead of z. -/
theorem Path.last : ∀ {r : List Nat} {a z : Nat}, Path c a r z → c z 1 = some (ptr (r.getLastD a))
  | [], _, _, h => h.2
  | b :: r, a, z, h => by
    have := Path.last (r := r) h.2
    rw [this, List.getLastD_cons]

theorem getLastD_mem : ∀ (r : List Nat) (a : Nat), r.getLastD a ∈ a :: r
  | [], a => by simp
  | b :: r, a => by
    rw [List.getLastD_cons]
    exact List.mem_cons_of_mem _ (getLastD_mem r b)

theorem headD_mem (r : List Nat) (z : Nat) : r.headD z = z ∨ r.headD z ∈ r := by cases r <;> simp

/-- b is taken out: its neighbours are linked to each other. -/
theorem Path.remove : ∀ {xs : List Nat} {a b z : Nat} {ys : List Nat}, Path c a (xs ++ b :: ys) z → (a :: (xs ++ b :: ys)).Nodup → z ∉ xs ++ b :: ys →
    ∀ {p q : Nat}, c b 1 = some (ptr p) → c b 2 = some (ptr q) → c' p 2 = some (ptr q) → c' q 1 = some (ptr p) → (∀ u, u ≠ p → c' u 2 = c u 2) → (∀ u, u ≠ q → c' u 1 = c u 1) →
    Path c' a (xs ++ ys) z
  | [], a, b, z, ys, h, hn, hz, p, q, hp, hq, s1, s2, f1, f2 => by
    obtain ⟨⟨hab, hba⟩, hy⟩ := h
    have ep : p = a := by rw [hp] at hba; exact ptr_inj (Option.some.inj hba)
    have eq' : q = ys.headD z := by have := hy.first; rw [hq] at this; exact ptr_inj (Option.some.inj this)
    subst ep
    cases ys with
    | nil => subst eq'; exact ⟨s1, s2⟩
    | cons y r =>
      have e : q = y := eq'
      subst e
      refine ⟨⟨s1, s2⟩, Path.frame hy.2 (fun u hu => f1 u ?_) (fun u hu => f2 u ?_) (f2 z ?_)⟩
      · rintro rfl
        simp only [List.nil_append, List.nodup_cons, List.mem_cons, not_or] at hn hu
        rcases hu with rfl | hu
        · exact hn.1.2.1 rfl
        · exact hn.1.2.2 hu
      · rintro rfl
        simp only [List.nil_append, List.nodup_cons, List.mem_cons, not_or] at hn
        exact hn.2.2.1 hu
      · rintro rfl
        simp at hz
  | x :: xs, a, b, z, ys, h, hn, hz, p, q, hp, hq, s1, s2, f1, f2 => by
    obtain ⟨⟨hax, hxa⟩, hr⟩ := h
    have hr' : Path c x (xs ++ b :: ys) z := hr
    have hn' : (x :: (xs ++ b :: ys)).Nodup := (List.nodup_cons.1 hn).2
    have hz' : z ∉ xs ++ b :: ys := fun hh => hz (by simp only [List.cons_append, List.mem_cons]; exact .inr hh)
    obtain ⟨h1, h2⟩ := hr'.split
    have ep : p = xs.getLastD x := by have := h1.last; rw [hp] at this; exact ptr_inj (Option.some.inj this)
    have eq' : q = ys.headD z := by have := h2.first; rw [hq] at this; exact ptr_inj (Option.some.inj this)
    refine ⟨⟨(f1 a ?_).trans hax, (f2 x ?_).trans hxa⟩, Path.remove hr' hn' hz' hp hq s1 s2 f1 f2⟩
    · intro e
      have hm := getLastD_mem xs x
      rw [← ep, ← e] at hm
      have := (List.nodup_cons.1 hn).1
      refine this ?_
      simp only [List.cons_append, List.mem_cons, List.mem_append] at hm ⊢
      rcases hm with hm | hm
      · exact .inl hm
      · exact .inr (.inl hm)
    · intro e
      rcases headD_mem ys z with hh | hh
      · rw [← eq', ← e] at hh
        subst hh
        simp at hz
      · rw [← eq', ← e] at hh
        have := (List.nodup_cons.1 hn').1
        exact this (by simp [hh])

/-- l is put in ahead of z. -/
theorem Path.insert : ∀ {xs : List Nat} {a z l : Nat}, Path c a xs z → (a :: xs).Nodup → z ∉ xs → l ∉ a :: xs → l ≠ z →
    ∀ {p : Nat}, p = xs.getLastD a → c' p 2 = some (ptr l) → c' l 1 = some (ptr p) → c' l 2 = some (ptr z) → c' z 1 = some (ptr l) → (∀ u ∈ a :: xs, u ≠ p → c' u 2 = c u 2) → (∀ u ∈ xs, c' u 1 = c u 1) →
    Path c' a (xs ++ [l]) z
  | [], a, z, l, _, _, _, _, _, p, hp, s1, s2, s3, s4, _, _ => by
    have e : p = a := hp
    subst e
    exact ⟨⟨s1, s2⟩, s3, s4⟩
  | x :: xs, a, z, l, h, hn, hz, hl, hlz, p, hp, s1, s2, s3, s4, f1, f2 => by
    have hp' : p = xs.getLastD x := by rw [hp, List.getLastD_cons]
    refine ⟨⟨(f1 a (by simp) ?_).trans h.1.1, (f2 x (by simp)).trans h.1.2⟩, Path.insert (xs := xs) h.2 (List.nodup_cons.1 hn).2 (fun hh => hz (by simp [hh])) (fun hh => hl (by simp only [List.mem_cons] at hh ⊢; exact .inr hh)) hlz hp' s1 s2 s3 s4
      (fun u hu hne => f1 u (by simp only [List.mem_cons] at hu ⊢; exact .inr hu) hne) (fun u hu => f2 u (by simp [hu]))⟩
    intro e
    have hm := getLastD_mem xs x
    rw [← hp', ← e] at hm
    exact (List.nodup_cons.1 hn).1 hm
end
end Go.Proofs.Ytenfcppcnkfidaa
