/-
  Package bits, walked: mask, there, Get, Set.
-/
import Derived.Test.YtfieaijehkfepaaBtM
import Derived.Test.YtfieaijehkfepaaProg
import Derived.WalkLawsBesides
import Derived.BigRegion
import Derived.Outline
import Derived.Deep.LoopGhost
import Derived.Deep.RegionHeld3
import Derived.Deep.DeepCutAuto
import Derived.Deep.CutBlock
namespace Go.Proofs.Ytfieaijehkfepaa
open Go.RowKit Go.Maps

def uvals (ws : List Nat) : List Value := ws.map fun (x : Nat) => Value.int .u64 (x : Int)

abbrev IsWords (w : World) (A : Option Addr) (n : Nat) (ws : List Nat) : Prop := IsVals w A n (uvals ws)

theorem uvals_length (ws : List Nat) : (uvals ws).length = ws.length := List.length_map _
theorem uvals_append (xs ys : List Nat) : uvals (xs ++ ys) = uvals xs ++ uvals ys := List.map_append

theorem uvals_cell (ws : List Nat) : ∀ u ∈ uvals ws, u.oneCell' = true := by
  intro u hu
  obtain ⟨_, _, rfl⟩ := List.mem_map.1 hu
  rfl

theorem IsWords.len {w : World} {A : Option Addr} {n : Nat} {ws : List Nat} (h : IsWords w A n ws) : ws.length = n := by
  have := h.1
  rwa [uvals_length] at this

theorem IsWords.at_ {w : World} {A : Option Addr} {n : Nat} {ws : List Nat} (h : IsWords w A n ws) {k : Nat} (hk : k < n) : ∃ b o, A = some ⟨b, o, none⟩ ∧ b < w.heap.size ∧ w.cell? ⟨b, o + k, none⟩ = some (.int .u64 (ws.getD k 0 : Nat)) := by
  obtain ⟨b, o, e, hb, hc⟩ := h.2 (by omega)
  refine ⟨b, o, e, hb, hc k _ ?_⟩
  have := h.len
  rw [uvals, List.getElem?_map, List.getD_eq_getElem?_getD, List.getElem?_eq_getElem (by omega)]
  rfl

theorem infoWord : (Try.prog.info? 24).map (fun i => (i.zero, i.size, i.bytes)) = some (some (.int .u64 0), 1, 8) := by kernel_rfl

/-! ### mask, there -/

theorem mask_k {w : World} {k : Nat} (hk : k ≤ 64) (Q : Ending → World → Prop) (hQ : Q (.returned (.int .u64 ((2 ^ k - 1 : Nat) : Int))) w) :
    Calls Try.prog 25 #[.int .i64 k] w Q := by
  have HQ := Lib.hid hQ
  clear hQ
  by_cases h : k = 64
  · subst h
    go_enter Try.func25, Try.ntmps25
    go_wp2
    exact HQ.out
  · have hlt : k < 64 := by omega
    have e : (((2 ^ k - 1 : Nat)) : Int) = IntKind.u64.wrap (IntKind.u64.wrap (2 ^ k) - 1) := by
      have h1 : 2 ^ k < 2 ^ 64 := Nat.pow_lt_pow_right (by omega) hlt
      have h2 : 0 < 2 ^ k := Nat.two_pow_pos k
      rw [IntKind.wrap_u64, IntKind.wrap_u64]
      have h3 : ((2 : Int) ^ k) = ((2 ^ k : Nat) : Int) := by simp
      rw [h3]
      omega
    have HE := Lib.hid e
    clear e h
    go_enter Try.func25, Try.ntmps25
    go_wp2
    have := HQ.out
    rw [HE.out] at this
    exact this

/-- Is a field of k bits from a on there, in n words? -/
def thB (n : Nat) (a k : Int) : Bool := decide (0 ≤ a ∧ 0 ≤ k ∧ k ≤ 64 ∧ a + k ≤ 64 * n)

theorem there_any {w : World} {A : Option Addr} {a k : Int} {n c : Nat} (hn : n ≤ 100000) (Q : Ending → World → Prop) (hQ : Q (.returned (.bool (thB n a k))) w) :
    Calls Try.prog 24 #[.slice A n c, .int .i64 a, .int .i64 k] w Q := by
  have HQ := Lib.hid hQ
  clear hQ
  by_cases h : 0 ≤ a ∧ 0 ≤ k ∧ k ≤ 64 ∧ a + k ≤ 64 * n
  · obtain ⟨h1, h2, h3, h4⟩ := h
    have e : thB n a k = true := by simp [thB, h1, h2, h3, h4]
    rw [e] at HQ
    clear e
    have h5 : a ≤ 64 * (n : Int) := by omega
    have h6 : decide (k ≤ 64 * (n : Int) - a) = true := by rw [decide_eq_true_iff]; omega
    go_enter Try.func24, Try.ntmps24
    go_wp2
    all_goals exact HQ.out
  · have e : thB n a k = false := by simpa [thB] using h
    rw [e] at HQ
    have HN := Lib.hid h
    clear e h
    go_enter Try.func24, Try.ntmps24
    have hf : 0 ≤ a → a ≤ 64 * (n : Int) → 0 ≤ k → k ≤ 64 → decide (k ≤ 64 * (n : Int) - a) = false := by
      intro g1 g2 g3 g4
      rw [decide_eq_false_iff_not]
      intro hk
      exact HN.out ⟨by omega, by omega, by omega, by omega⟩
    have HF := Lib.hid hf
    clear hf
    go_wp2
    all_goals first | exact HQ.out | (simp only [HF.out (by omega) (by omega) (by omega) (by omega)]; exact HQ.out)

theorem rthere_any {w : World} {A : Option Addr} {a k : Int} {n c : Nat} (hn : n ≤ 100000) (Q : Ending → World → Prop) (hQ : Q (.returned (.bool (thB n a k))) w) :
    Calls Try.prog 26 #[.slice A n c, .int .i64 a, .int .i64 k] w Q := by
  have HQ := Lib.hid hQ
  clear hQ
  by_cases h : 0 ≤ a ∧ 0 ≤ k ∧ k ≤ 64 ∧ a + k ≤ 64 * n
  · obtain ⟨h1, h2, h3, h4⟩ := h
    have e : thB n a k = true := by simp [thB, h1, h2, h3, h4]
    rw [e] at HQ
    clear e
    have h5 : a ≤ 64 * (n : Int) := by omega
    have h6 : decide (k ≤ 64 * (n : Int) - a) = true := by rw [decide_eq_true_iff]; omega
    go_enter Try.func26, Try.ntmps26
    go_wp2
    all_goals exact HQ.out
  · have e : thB n a k = false := by simpa [thB] using h
    rw [e] at HQ
    have HN := Lib.hid h
    clear e h
    go_enter Try.func26, Try.ntmps26
    have hf : 0 ≤ a → a ≤ 64 * (n : Int) → 0 ≤ k → k ≤ 64 → decide (k ≤ 64 * (n : Int) - a) = false := by
      intro g1 g2 g3 g4
      rw [decide_eq_false_iff_not]
      intro hk
      exact HN.out ⟨by omega, by omega, by omega, by omega⟩
    have HF := Lib.hid hf
    clear hf
    go_wp2
    all_goals first | exact HQ.out | (simp only [HF.out (by omega) (by omega) (by omega) (by omega)]; exact HQ.out)

/-! ### Get -/

theorem get_no {w : World} {A : Option Addr} {a k : Int} {n c : Nat} (hn : n ≤ 100000) (h : thB n a k = false) (Q : Ending → World → Prop) (hQ : Q (.returned (.tuple #[.int .u64 0, .bool false])) w) :
    Calls Try.prog 11 #[.slice A n c, .int .i64 a, .int .i64 k] w Q := by
  have HQ := Lib.hid hQ
  have hc := Lib.hid (there_any (w := w) (A := A) (a := a) (k := k) (c := c) hn)
  clear hQ
  go_enter Try.func11, Try.ntmps11
  go_wp2_with fail
  refine hc.out _ ?_
  rw [h]
  go_wp2_with fail
  exact HQ.out

set_option maxHeartbeats 400000 in
theorem get_yes {w : World} {A : Option Addr} {a k n c : Nat} {ws : List Nat} (hx : IsWords w A n ws) (hb : Bnd ws) (hn : n ≤ 100000) (h1 : k ≤ 64) (h2 : a + k ≤ 64 * n) (Q : Ending → World → Prop)
    (hQ : Q (.returned (.tuple #[.int .u64 (getF ws a k : Nat), .bool true])) w) :
    Calls Try.prog 11 #[.slice A n c, .int .i64 a, .int .i64 k] w Q := by
  have hc := Lib.hid (there_any (w := w) (A := A) (a := (a : Int)) (k := (k : Int)) (c := c) hn)
  have ht : thB n (a : Int) (k : Int) = true := by simp [thB]; omega
  have HT := Lib.hid ht
  have HQ := Lib.hid hQ
  have HB := Lib.hid hb
  have HX := Lib.hid hx
  clear ht hQ hb hx
  by_cases hk0 : k = 0
  · subst hk0
    go_enter Try.func11, Try.ntmps11
    go_wp2_with fail
    refine hc.out _ ?_
    rw [HT.out]
    go_wp2_with fail
    exact HQ.out
  · have hlt : a / 64 < n := by omega
    obtain ⟨b, o, rfl, _, c0⟩ := HX.out.at_ hlt
    have hxb := HB.out.getD (a / 64)
    have tk : ((k : Int) == 0) = false := by rw [beq_eq_false_iff_ne]; omega
    have hm := Lib.hid (mask_k (w := w) h1)
    by_cases hone : a % 64 + k ≤ 64
    · have hg := get_one (ws := ws) (a := a) (k := k) hone
      generalize ws.getD (a / 64) 0 = x at *
      have hs := shr64 x (a % 64)
      have hy : x >>> (a % 64) < 2 ^ 64 := by rw [Nat.shiftRight_eq_div_pow]; exact Nat.lt_of_le_of_lt (Nat.div_le_self _ _) hxb
      have hml := msk_lt h1
      generalize x >>> (a % 64) = y at *
      generalize 2 ^ k - 1 = m at *
      have ha := and64 hy hml
      rw [hg] at ha
      clear hg hxb hy hml
      go_enter Try.func11, Try.ntmps11
      go_wp2_with fail
      refine hc.out _ ?_
      rw [HT.out]
      go_wp2_with fail
      refine hm.out _ ?_
      go_wp2_with fail
      exact HQ.out
    · obtain ⟨_, _, e, _, c1⟩ := HX.out.at_ (k := a / 64 + 1) (by omega)
      obtain ⟨rfl, rfl⟩ : b = _ ∧ o = _ := by simpa using e
      have hg := get_two (ws := ws) (a := a) (k := k) HB.out (by omega) h1
      have hxb1 := HB.out.getD (a / 64 + 1)
      have hlt1 : a / 64 + 1 < n := by omega
      generalize ws.getD (a / 64) 0 = x at *
      generalize ws.getD (a / 64 + 1) 0 = x1 at *
      have hs := shr64 x (a % 64)
      have hl := shl64 x1 (64 - a % 64)
      have hy : x >>> (a % 64) < 2 ^ 64 := by rw [Nat.shiftRight_eq_div_pow]; exact Nat.lt_of_le_of_lt (Nat.div_le_self _ _) hxb
      have hy1 : x1 <<< (64 - a % 64) % 2 ^ 64 < 2 ^ 64 := Nat.mod_lt _ (by decide)
      have hml := msk_lt h1
      generalize x >>> (a % 64) = y at *
      generalize x1 <<< (64 - a % 64) % 2 ^ 64 = y1 at *
      generalize 2 ^ k - 1 = m at *
      have ho := or64 hy hy1
      have hz : y ||| y1 < 2 ^ 64 := Nat.or_lt_two_pow hy hy1
      generalize y ||| y1 = z at *
      have ha := and64 hz hml
      rw [hg] at ha
      clear hg hxb hxb1 hy hy1 hml hz e
      go_enter Try.func11, Try.ntmps11
      go_wp2_with fail
      refine hc.out _ ?_
      rw [HT.out]
      go_wp2_with fail
      refine hm.out _ ?_
      go_wp2_with fail
      exact HQ.out
end Go.Proofs.Ytfieaijehkfepaa
