/-
  Package bits: both halves of Get and Set at once; size.
-/
import Derived.Test.YtfieaijehkfepaaBtF
namespace Go.Proofs.Ytfieaijehkfepaa
open Go.RowKit Go.Maps

/-! ### ints -/

def ivals (xs : List Int) : List Value := xs.map (.int .i64)

abbrev IsInts (w : World) (A : Option Addr) (n : Nat) (xs : List Int) : Prop := IsVals w A n (ivals xs)

theorem IsInts.len {w : World} {A : Option Addr} {n : Nat} {xs : List Int} (h : IsInts w A n xs) : xs.length = n := by
  have := h.1
  rwa [ivals, List.length_map] at this

theorem IsInts.at_ {w : World} {A : Option Addr} {n : Nat} {xs : List Int} (h : IsInts w A n xs) {k : Nat} (hk : k < n) : ∃ b o, A = some ⟨b, o, none⟩ ∧ b < w.heap.size ∧ w.cell? ⟨b, o + k, none⟩ = some (.int .i64 (xs.getD k 0)) := by
  obtain ⟨b, o, e, hb, hc⟩ := h.2 (by omega)
  refine ⟨b, o, e, hb, hc k _ ?_⟩
  have := h.len
  rw [ivals, List.getElem?_map, List.getD_eq_getElem?_getD, List.getElem?_eq_getElem (by omega)]
  rfl

/-! ### Get, Set -/

def getO (ws : List Nat) (a k : Int) : Option Nat := if thB ws.length a k = true then some (getF ws a.toNat k.toNat) else none

def setO (ws : List Nat) (a k : Int) (v : Nat) : Option (List Nat) := if thB ws.length a k = true then some (setF ws a.toNat k.toNat v) else none

theorem thB_nat {n : Nat} {a k : Int} (h : thB n a k = true) : ∃ a' k' : Nat, a = a' ∧ k = k' ∧ k' ≤ 64 ∧ a' + k' ≤ 64 * n := by
  simp only [thB, decide_eq_true_iff] at h
  exact ⟨a.toNat, k.toNat, by omega, by omega, by omega, by omega⟩

def gv : Option Nat → Value
  | some v => .tuple #[.int .u64 (v : Int), .bool true]
  | none => .tuple #[.int .u64 0, .bool false]

theorem get_any {w : World} {A : Option Addr} {a k : Int} {n c : Nat} {ws : List Nat} (hx : IsWords w A n ws) (hb : Bnd ws) (hn : n ≤ 100000) (Q : Ending → World → Prop)
    (hQ : Q (.returned (gv (getO ws a k))) w) :
    Calls Try.prog 11 #[.slice A n c, .int .i64 a, .int .i64 k] w Q := by
  unfold getO at hQ
  rw [hx.len] at hQ
  cases h : thB n a k with
  | false => rw [if_neg (by rw [h]; decide)] at hQ; exact get_no hn h _ hQ
  | true =>
    rw [if_pos h] at hQ
    obtain ⟨a', k', rfl, rfl, h1, h2⟩ := thB_nat h
    exact get_yes hx hb hn h1 h2 _ hQ

theorem rget_any {w : World} {A : Option Addr} {a k : Int} {n c : Nat} {ws : List Nat} (hx : IsWords w A n ws) (hb : Bnd ws) (hn : n ≤ 100000) (Q : Ending → World → Prop)
    (hQ : Q (.returned (gv (getO ws a k))) w) :
    Calls Try.prog 12 #[.slice A n c, .int .i64 a, .int .i64 k] w Q := by
  unfold getO at hQ
  rw [hx.len] at hQ
  cases h : thB n a k with
  | false => rw [if_neg (by rw [h]; decide)] at hQ; exact rget_no hn h _ hQ
  | true =>
    rw [if_pos h] at hQ
    obtain ⟨a', k', rfl, rfl, h1, h2⟩ := thB_nat h
    exact rget_yes hx hb hn h1 h2 _ hQ

theorem setO_bnd {ws : List Nat} {a k : Int} {v : Nat} : Bnd ((setO ws a k v).getD []) := by
  unfold setO
  split
  · exact setF_bnd _ _ _ _
  · intro x hx; simp at hx

theorem set_any {w : World} {A : Option Addr} {a k : Int} {n c v : Nat} {ws : List Nat} (hx : IsWords w A n ws) (hb : Bnd ws) (hv : v < 2 ^ 64) (hn : n ≤ 100000) (Q : Ending → World → Prop)
    (hQ : ∀ w' A' m c', IsWords w' A' m ((setO ws a k v).getD []) → m ≤ n → Below w.heap.size w w' → Q (.returned (.tuple #[.slice A' m c', .bool (setO ws a k v).isSome])) w') :
    Calls Try.prog 13 #[.slice A n c, .int .i64 a, .int .i64 k, .int .u64 v] w Q := by
  unfold setO at hQ
  rw [hx.len] at hQ
  cases h : thB n a k with
  | false => rw [if_neg (by rw [h]; decide)] at hQ; exact set_no hn h _ (hQ w none 0 0 (IsVals.nil _ _) (Nat.zero_le _) (Below.refl _ _))
  | true =>
    rw [if_pos h] at hQ
    obtain ⟨a', k', rfl, rfl, h1, h2⟩ := thB_nat h
    exact set_yes hx hb hv hn h1 h2 _ fun w' A' c' g1 g2 => hQ w' A' n c' g1 (Nat.le_refl _) g2

theorem rset_any {w : World} {A : Option Addr} {a k : Int} {n c v : Nat} {ws : List Nat} (hx : IsWords w A n ws) (hb : Bnd ws) (hv : v < 2 ^ 64) (hn : n ≤ 100000) (Q : Ending → World → Prop)
    (hQ : ∀ w' A' m c', IsWords w' A' m ((setO ws a k v).getD []) → m ≤ n → Below w.heap.size w w' → Q (.returned (.tuple #[.slice A' m c', .bool (setO ws a k v).isSome])) w') :
    Calls Try.prog 14 #[.slice A n c, .int .i64 a, .int .i64 k, .int .u64 v] w Q := by
  unfold setO at hQ
  rw [hx.len] at hQ
  cases h : thB n a k with
  | false => rw [if_neg (by rw [h]; decide)] at hQ; exact rset_no hn h _ (hQ w none 0 0 (IsVals.nil _ _) (Nat.zero_le _) (Below.refl _ _))
  | true =>
    rw [if_pos h] at hQ
    obtain ⟨a', k', rfl, rfl, h1, h2⟩ := thB_nat h
    exact rset_yes hx hb hv hn h1 h2 _ fun w' A' c' g1 g2 => hQ w' A' n c' g1 (Nat.le_refl _) g2

/-! ### size -/

def okK (k : Int) : Bool := decide (0 ≤ k) && decide (k ≤ 64)

def okW (ks : List Int) : Bool := ks.all okK

/-- How many bits the first j widths have. -/
def off (ks : List Int) (j : Nat) : Nat := ((ks.take j).map Int.toNat).sum

theorem off_succ {ks : List Int} {j : Nat} (hj : j < ks.length) : off ks (j + 1) = off ks j + (ks.getD j 0).toNat := by
  unfold off
  rw [List.take_succ_eq_append_getElem hj, List.map_append, List.sum_append, List.getD_eq_getElem?_getD, List.getElem?_eq_getElem hj]
  simp

theorem off_le {ks : List Int} {j : Nat} (hj : j ≤ ks.length) (h : okW (ks.take j) = true) : off ks j ≤ 64 * j := by
  induction j with
  | zero => simp [off]
  | succ j ih =>
    have hj' : j < ks.length := by omega
    rw [off_succ hj']
    rw [okW, List.take_succ_eq_append_getElem hj', List.all_append, Bool.and_eq_true] at h
    have h1 := ih (by omega) h.1
    have h2 : okK (ks[j]) = true := by simpa using h.2
    unfold okK at h2
    rw [List.getD_eq_getElem?_getD, List.getElem?_eq_getElem hj']
    simp only [Option.getD_some]
    simp at h2
    omega

theorem okW_take_succ {ks : List Int} {j : Nat} (hj : j < ks.length) : okW (ks.take (j + 1)) = (okW (ks.take j) && okK (ks.getD j 0)) := by
  rw [okW, List.take_succ_eq_append_getElem hj, List.all_append, List.getD_eq_getElem?_getD, List.getElem?_eq_getElem hj]
  simp [okW]

theorem okW_bad {ks : List Int} {j : Nat} (hj : j < ks.length) (h : okK (ks.getD j 0) = false) : okW ks = false := by
  rw [List.getD_eq_getElem?_getD, List.getElem?_eq_getElem hj] at h
  rw [okW, List.all_eq_false]
  exact ⟨_, List.getElem_mem hj, by simpa using h⟩

theorem okW_at {ks : List Int} (h : okW ks = true) {j : Nat} (hj : j < ks.length) : ∃ k : Nat, ks.getD j 0 = (k : Int) ∧ k ≤ 64 := by
  rw [okW, List.all_eq_true] at h
  have h2 := h _ (List.getElem_mem hj)
  unfold okK at h2
  simp at h2
  rw [List.getD_eq_getElem?_getD, List.getElem?_eq_getElem hj]
  exact ⟨(ks[j]).toNat, by simp only [Option.getD_some]; omega, by omega⟩

set_option maxHeartbeats 400000 in
theorem size_any {w : World} {A : Option Addr} {n c : Nat} {ks : List Int} (hx : IsInts w A n ks) (hn : n ≤ 10000) (Q : Ending → World → Prop)
    (hQ : Q (.returned (if okW ks = true then .tuple #[.int .i64 (off ks n : Nat), .bool (decide (n ≤ 100))] else .tuple #[.int .i64 0, .bool false])) w) :
    Calls Try.prog 29 #[.slice A n c] w Q := by
  have HQ := Lib.hid hQ
  have hlen := hx.len
  have HL := Lib.hid hlen
  have HX := Lib.hid hx
  clear hQ hx hlen
  go_enter Try.func29, Try.ntmps29
  go_wp2_with fail
  go_loopg [4, 9] n (fun g s i wr => ∃ j : Nat, j ≤ n ∧ g = n - j ∧ i = .int .i64 (j : Int) ∧ wr = w ∧ s = .int .i64 (off ks j : Nat) ∧ Hid (okW (ks.take j) = true))
  case atStart => exact ⟨0, Nat.zero_le _, rfl, rfl, rfl, rfl, Lib.hid (by simp [okW])⟩
  case round =>
    obtain ⟨j, hj, hg, rfl, rfl, rfl, HT⟩ := hrel
    have HG := Lib.hid hg
    clear hg
    by_cases hlt : j < n
    · obtain ⟨b, o, rfl, _, c0⟩ := HX.out.at_ hlt
      have hle := off_le (by rw [HL.out]; exact hj) HT.out
      have HO := Lib.hid (off_succ (ks := ks) (j := j) (by rw [HL.out]; exact hlt))
      have HK := Lib.hid (okW_take_succ (ks := ks) (j := j) (by rw [HL.out]; exact hlt))
      have HBAD := Lib.hid (okW_bad (ks := ks) (j := j) (by rw [HL.out]; exact hlt))
      generalize ks.getD j 0 = x at *
      generalize off ks j = s at *
      by_cases hx : 0 ≤ x ∧ x ≤ 64
      · obtain ⟨hx0, hx1⟩ := hx
        have hok : Hid (okW (ks.take (j + 1)) = true) := Lib.hid (by rw [HK.out, HT.out]; simp [okK, hx0, hx1])
        go_wp2_with fail
        go_roundg (n - (j + 1))
        case measure => have := HG.out; omega
        case rel => exact ⟨j + 1, by omega, rfl, by go_num, rfl, by rw [HO.out]; go_num, hok⟩
      · have hfin := HQ.out
        rw [if_neg (by rw [HBAD.out (by simp [okK]; omega)]; decide)] at hfin
        have HF := Lib.hid hfin
        clear hfin
        have hx' : x < 0 ∨ 64 < x := by omega
        clear hx
        rcases hx' with hx' | hx'
        all_goals
          go_wp2_with fail
          exact HF.out
    · have he : j = n := by omega
      subst he
      have hle := off_le (by rw [HL.out]; exact hj) HT.out
      have hfin := HQ.out
      rw [if_pos (by have := HT.out; rwa [List.take_of_length_le (by rw [HL.out]; exact Nat.le_refl _)] at this)] at hfin
      have HF := Lib.hid hfin
      clear hfin
      generalize off ks j = s at *
      go_wp2_with fail
      have := HF.out
      rw [show decide (j ≤ 100) = decide ((j : Int) ≤ 100) from decide_eq_decide.2 (by omega)] at this
      exact this

set_option maxHeartbeats 400000 in
theorem rsize_any {w : World} {A : Option Addr} {n c : Nat} {ks : List Int} (hx : IsInts w A n ks) (hn : n ≤ 10000) (Q : Ending → World → Prop)
    (hQ : ∀ q, Q (.returned (.int .i64 (if n ≤ 100 ∧ okW ks = true then (off ks n : Nat) else -1))) (w.drewN q)) :
    Calls Try.prog 30 #[.slice A n c] w Q := by
  have HQ := Lib.hid hQ
  have hlen := hx.len
  have HL := Lib.hid hlen
  have HX := Lib.hid hx
  clear hQ hx hlen
  by_cases h100 : n ≤ 100
  · go_enter Try.func30, Try.ntmps30
    go_wp2_with fail
    go_loopg [3, 4] n (fun g s i wr => ∃ j q : Nat, j ≤ n ∧ g = n - j ∧ i = .int .i64 (j : Int) ∧ wr = w.drewN q ∧ s = .int .i64 (off ks j : Nat) ∧ Hid (okW (ks.take j) = true))
    case atStart => exact ⟨0, 0, Nat.zero_le _, rfl, rfl, rfl, rfl, Lib.hid (by simp [okW])⟩
    case round =>
      obtain ⟨j, q, hj, hg, rfl, rfl, rfl, HT⟩ := hrel
      have HG := Lib.hid hg
      clear hg
      by_cases hlt : j < n
      · obtain ⟨b, o, rfl, _, c0⟩ := HX.out.at_ hlt
        have hle := off_le (by rw [HL.out]; exact hj) HT.out
        have HO := Lib.hid (off_succ (ks := ks) (j := j) (by rw [HL.out]; exact hlt))
        have HK := Lib.hid (okW_take_succ (ks := ks) (j := j) (by rw [HL.out]; exact hlt))
        have HBAD := Lib.hid (okW_bad (ks := ks) (j := j) (by rw [HL.out]; exact hlt))
        generalize ks.getD j 0 = x at *
        generalize off ks j = s at *
        by_cases hx : 0 ≤ x ∧ x ≤ 64
        · obtain ⟨hx0, hx1⟩ := hx
          have hok : Hid (okW (ks.take (j + 1)) = true) := Lib.hid (by rw [HK.out, HT.out]; simp [okK, hx0, hx1])
          go_wp2_with fail
          go_roundg (n - (j + 1))
          case measure => have := HG.out; omega
          case rel => exact ⟨j + 1, q, by omega, rfl, by go_num, rfl, by rw [HO.out]; go_num, hok⟩
        · have hfin := HQ.out q
          rw [if_neg (by rw [HBAD.out (by simp [okK]; omega)]; simp)] at hfin
          have HF := Lib.hid hfin
          clear hfin
          have hx' : x < 0 ∨ 64 < x := by omega
          clear hx
          rcases hx' with hx' | hx'
          all_goals
            go_wp2_with fail
            exact HF.out
      · have he : j = n := by omega
        subst he
        have hle := off_le (by rw [HL.out]; exact hj) HT.out
        have hfin := HQ.out q
        rw [if_pos ⟨h100, by have := HT.out; rwa [List.take_of_length_le (by rw [HL.out]; exact Nat.le_refl _)] at this⟩] at hfin
        have HF := Lib.hid hfin
        clear hfin
        generalize off ks j = s at *
        go_wp2_with fail
        exact HF.out
  · have hfin := HQ.out 0
    rw [if_neg (by omega)] at hfin
    have HF := Lib.hid hfin
    clear hfin
    go_enter Try.func30, Try.ntmps30
    go_wp2_with fail
    exact HF.out
end Go.Proofs.Ytfieaijehkfepaa
