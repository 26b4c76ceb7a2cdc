/-
  Next and Count: plain laws, no program.
-/
import Derived.Test.YtbhhbddmokddeaaBtM
namespace Go.Proofs.Ytbhhbddmokddeaa
open Go.RowKit

/-- The first bit that is 1, from a on. -/
def nextB (ws : List Nat) (a : Nat) : Option Nat := (List.range (64 * ws.length)).find? fun q => decide (a ≤ q) && bitAt ws q

theorem nextB_some {ws : List Nat} {a p : Nat} : nextB ws a = some p ↔ a ≤ p ∧ p < 64 * ws.length ∧ bitAt ws p = true ∧ ∀ q, a ≤ q → q < p → bitAt ws q = false := by
  unfold nextB
  rw [List.find?_range_eq_some]
  simp only [Bool.and_eq_true, decide_eq_true_iff, List.mem_range, Bool.not_eq_true', Bool.and_eq_false_iff, decide_eq_false_iff_not]
  constructor
  · rintro ⟨⟨h1, h2⟩, h3, h4⟩
    exact ⟨h1, h3, h2, fun q g1 g2 => (h4 q g2).elim (fun e => absurd g1 e) id⟩
  · rintro ⟨h1, h2, h3, h4⟩
    refine ⟨⟨h1, h3⟩, h2, fun q hq => ?_⟩
    by_cases ha : a ≤ q
    · exact .inr (h4 q ha hq)
    · exact .inl ha

theorem nextB_none {ws : List Nat} {a : Nat} : nextB ws a = none ↔ ∀ q, a ≤ q → q < 64 * ws.length → bitAt ws q = false := by
  unfold nextB
  rw [List.find?_eq_none]
  simp only [List.mem_range, Bool.and_eq_true, decide_eq_true_iff, not_and, Bool.not_eq_true]
  exact ⟨fun h q h1 h2 => h q h2 h1, fun h q h2 h1 => h q h1 h2⟩

/-! ### the binary search -/

/-- What the search knows: the number is N without its lowest 'at' bits, which are 0; one of its lowest W bits is 1. -/
structure Srch (N at' x W : Nat) : Prop where
  eq : x = N >>> at'
  low : ∀ j, j < at' → N.testBit j = false
  has : ∃ j, j < W ∧ x.testBit j = true
  lt : x < 2 ^ 64
  fit : at' + W ≤ 64

theorem some_bit {x : Nat} (h : x ≠ 0) : ∃ j, x.testBit j = true := by
  refine Classical.byContradiction fun hn => h (Nat.eq_of_testBit_eq fun j => ?_)
  rw [Nat.zero_testBit]
  cases e : x.testBit j with
  | false => rfl
  | true => exact absurd ⟨j, e⟩ hn

theorem Srch.start {N : Nat} (h0 : N ≠ 0) (h : N < 2 ^ 64) : Srch N 0 N 64 := by
  refine ⟨rfl, fun j hj => by omega, ?_, h, by omega⟩
  obtain ⟨j, hj⟩ := some_bit h0
  refine ⟨j, ?_, hj⟩
  rcases Nat.lt_or_ge j 64 with hlt | hge
  · exact hlt
  · rw [tb_out h hge] at hj; cases hj

theorem testBit_and_mask {x h j : Nat} : (x &&& (2 ^ h - 1)).testBit j = (x.testBit j && decide (j < h)) := by
  rw [Nat.testBit_and, Nat.testBit_two_pow_sub_one]

theorem Srch.up {N at' x h : Nat} (s : Srch N at' x (2 * h)) (hz : x &&& (2 ^ h - 1) = 0) : Srch N (at' + h) (x >>> h) h := by
  have hlow : ∀ j, j < h → x.testBit j = false := fun j hj => by
    have := testBit_and_mask (x := x) (h := h) (j := j)
    rw [hz] at this
    simpa [hj] using this
  refine ⟨by rw [s.eq, ← Nat.shiftRight_add], fun j hj => ?_, ?_, ?_, by have := s.fit; omega⟩
  · rcases Nat.lt_or_ge j at' with h1 | h1
    · exact s.low j h1
    · have := hlow (j - at') (by omega)
      rw [s.eq, Nat.testBit_shiftRight] at this
      rwa [show at' + (j - at') = j by omega] at this
  · obtain ⟨j, hj, hb⟩ := s.has
    have : h ≤ j := by
      rcases Nat.lt_or_ge j h with h1 | h1
      · rw [hlow j h1] at hb; cases hb
      · exact h1
    refine ⟨j - h, by omega, ?_⟩
    rw [Nat.testBit_shiftRight, show h + (j - h) = j by omega]
    exact hb
  · rw [Nat.shiftRight_eq_div_pow]
    exact Nat.lt_of_le_of_lt (Nat.div_le_self _ _) s.lt

theorem Srch.down {N at' x h : Nat} (s : Srch N at' x (2 * h)) (hz : x &&& (2 ^ h - 1) ≠ 0) : Srch N at' x h := by
  refine ⟨s.eq, s.low, ?_, s.lt, by have := s.fit; omega⟩
  obtain ⟨j, hj⟩ := some_bit hz
  rw [testBit_and_mask] at hj
  simp only [Bool.and_eq_true, decide_eq_true_iff] at hj
  exact ⟨j, hj.2, hj.1⟩

theorem Srch.last {N at' x : Nat} (s : Srch N at' x 1) : at' < 64 ∧ N.testBit at' = true ∧ ∀ j, j < at' → N.testBit j = false := by
  obtain ⟨j, hj, hb⟩ := s.has
  obtain rfl : j = 0 := by omega
  rw [s.eq, Nat.testBit_shiftRight] at hb
  exact ⟨by have := s.fit; omega, hb, s.low⟩

/-- The word at k, without what lies below a. -/
def wordFrom (ws : List Nat) (a k : Nat) : Nat := if k = a / 64 then (ws.getD k 0 >>> (a % 64)) <<< (a % 64) % 2 ^ 64 else ws.getD k 0

theorem wordFrom_lt {ws : List Nat} {a k : Nat} (hb : Bnd ws) : wordFrom ws a k < 2 ^ 64 := by
  unfold wordFrom
  split
  · exact Nat.mod_lt _ (by decide)
  · exact hb.getD k

theorem testBit_wordFrom {ws : List Nat} {a k j : Nat} (hk : a / 64 ≤ k) (hj : j < 64) : (wordFrom ws a k).testBit j = (decide (a ≤ 64 * k + j) && bitAt ws (64 * k + j)) := by
  have e : bitAt ws (64 * k + j) = (ws.getD k 0).testBit j := by
    unfold bitAt
    rw [show (64 * k + j) / 64 = k by omega, show (64 * k + j) % 64 = j by omega]
  rw [e]
  unfold wordFrom
  split
  · rename_i h
    rw [Nat.testBit_mod_two_pow, Nat.testBit_shiftLeft, Nat.testBit_shiftRight]
    by_cases hs : a % 64 ≤ j
    · have : a ≤ 64 * k + j := by omega
      simp [hj, hs, this]
    · have : ¬ a ≤ 64 * k + j := by omega
      simp [hs, this]
  · have : a ≤ 64 * k + j := by omega
    simp [this]

theorem wordFrom_zero {ws : List Nat} {a k : Nat} (hk : a / 64 ≤ k) (hz : wordFrom ws a k = 0) (hq : ∀ q, a ≤ q → q < 64 * k → bitAt ws q = false) : ∀ q, a ≤ q → q < 64 * (k + 1) → bitAt ws q = false := by
  intro q h1 h2
  rcases Nat.lt_or_ge q (64 * k) with h | h
  · exact hq q h1 h
  · have := testBit_wordFrom (ws := ws) (j := q - 64 * k) hk (by omega)
    rw [hz, show 64 * k + (q - 64 * k) = q by omega] at this
    simpa [h1] using this.symm

theorem wordFrom_found {ws : List Nat} {a k at' x : Nat} (hk : a / 64 ≤ k) (hkn : k < ws.length) (s : Srch (wordFrom ws a k) at' x 1) (hq : ∀ q, a ≤ q → q < 64 * k → bitAt ws q = false) : nextB ws a = some (64 * k + at') := by
  obtain ⟨h1, h2, h3⟩ := s.last
  rw [testBit_wordFrom hk h1] at h2
  simp only [Bool.and_eq_true, decide_eq_true_iff] at h2
  refine nextB_some.2 ⟨h2.1, by omega, h2.2, fun q g1 g2 => ?_⟩
  rcases Nat.lt_or_ge q (64 * k) with h | h
  · exact hq q g1 h
  · have := h3 (q - 64 * k) (by omega)
    rw [testBit_wordFrom hk (by omega), show 64 * k + (q - 64 * k) = q by omega] at this
    simpa [g1] using this

/-! ### counting -/

def cntTo (f : Nat → Bool) : Nat → Nat
  | 0 => 0
  | n + 1 => cntTo f n + if f n then 1 else 0

theorem cntTo_add (f : Nat → Bool) (m : Nat) : ∀ n, cntTo f (m + n) = cntTo f m + cntTo (fun j => f (m + j)) n
  | 0 => rfl
  | n + 1 => by rw [← Nat.add_assoc, cntTo, cntTo_add f m n, cntTo]; omega

theorem cntTo_congr {f g : Nat → Bool} : ∀ {n}, (∀ j, j < n → f j = g j) → cntTo f n = cntTo g n
  | 0, _ => rfl
  | n + 1, h => by rw [cntTo, cntTo, cntTo_congr fun j hj => h j (by omega), h n (by omega)]

theorem cntTo_le (f : Nat → Bool) : ∀ n, cntTo f n ≤ n
  | 0 => Nat.le_refl _
  | n + 1 => by have := cntTo_le f n; rw [cntTo]; split <;> omega

theorem cntTo_cons (f : Nat → Bool) : ∀ n, cntTo f (n + 1) = (if f 0 then 1 else 0) + cntTo (fun j => f (j + 1)) n
  | 0 => by simp [cntTo]
  | n + 1 => by rw [cntTo, cntTo_cons f n, cntTo]; omega

def pop : Nat → Nat → Nat
  | 0, _ => 0
  | f + 1, x => x % 2 + pop f (x / 2)

theorem pop_cnt : ∀ f x, pop f x = cntTo x.testBit f
  | 0, _ => rfl
  | f + 1, x => by
    rw [pop, pop_cnt f, cntTo_cons]
    have h1 : x % 2 = if x.testBit 0 = true then 1 else 0 := by
      rw [Nat.testBit_zero]
      by_cases h : x % 2 = 1
      · simp [h]
      · have : x % 2 = 0 := by omega
        simp [this]
    have h2 : cntTo (x / 2).testBit f = cntTo (fun j => x.testBit (j + 1)) f := cntTo_congr fun j _ => by rw [Nat.testBit_succ]
    rw [h2, h1]

theorem pop_zero : ∀ f, pop f 0 = 0
  | 0 => rfl
  | f + 1 => by rw [pop, Nat.zero_div, pop_zero f]

theorem pop_drop : ∀ f x, x ≠ 0 → x < 2 ^ f → pop f (x &&& (x - 1)) + 1 = pop f x
  | 0, x, h0, h => by simp at h; omega
  | f + 1, x, h0, h => by
    rw [pop, pop, Nat.and_div_two]
    rw [Nat.pow_succ] at h
    by_cases hx : x % 2 = 1
    · have h1 : (x &&& (x - 1)) % 2 = 0 := by
        have := (Nat.and_mod_two_eq_one (a := x) (b := x - 1))
        rcases Nat.mod_two_eq_zero_or_one (x &&& (x - 1)) with e | e
        · exact e
        · have := (this.1 e).2; omega
      rw [h1, hx, show (x - 1) / 2 = x / 2 by omega, Nat.and_self]
      omega
    · have h1 : (x &&& (x - 1)) % 2 = 0 := by
        have := (Nat.and_mod_two_eq_one (a := x) (b := x - 1))
        rcases Nat.mod_two_eq_zero_or_one (x &&& (x - 1)) with e | e
        · exact e
        · have := (this.1 e).1; omega
      have h2 := pop_drop f (x / 2) (by omega) (by omega)
      rw [h1, show x % 2 = 0 by omega, show (x - 1) / 2 = x / 2 - 1 by omega]
      omega

/-- How many bits of a word are 1. -/
@[irreducible] def popW (x : Nat) : Nat := pop 64 x

theorem popW_zero : popW 0 = 0 := by unfold popW; exact pop_zero 64

theorem popW_drop {x : Nat} (h0 : x ≠ 0) (h : x < 2 ^ 64) : popW (x &&& (x - 1)) + 1 = popW x := by unfold popW; exact pop_drop 64 x h0 h

theorem cnt_word {ws : List Nat} (k : Nat) : cntTo (bitAt ws) (64 * (k + 1)) = cntTo (bitAt ws) (64 * k) + popW (ws.getD k 0) := by
  unfold popW
  rw [show 64 * (k + 1) = 64 * k + 64 by omega, cntTo_add, pop_cnt]
  congr 1
  refine cntTo_congr fun j hj => ?_
  unfold bitAt
  rw [show (64 * k + j) / 64 = k by omega, show (64 * k + j) % 64 = j by omega]

/-- How many bits are 1. -/
def cntB (ws : List Nat) : Nat := cntTo (bitAt ws) (64 * ws.length)

theorem cntB_le (ws : List Nat) : cntB ws ≤ 64 * ws.length := cntTo_le _ _
end Go.Proofs.Ytbhhbddmokddeaa
