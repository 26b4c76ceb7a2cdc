/-
  Package bits, the parts that the wheel calls, walked (turned from BtA, BtB, BtC, BtF).
-/
import Derived.Test.YtbhhbddmokddeaaBtM
import Derived.Test.YtbhhbddmokddeaaBtD
import Derived.Test.YtbhhbddmokddeaaProg
import Derived.WalkLawsBesides
import Derived.BigRegion
import Derived.Outline
import Derived.Deep.LoopGhost
import Derived.Deep.RegionHeld3
import Derived.Deep.DeepCutAuto
import Derived.Deep.CutBlock
import Derived.Deep.RegionWith
import Derived.IntWalk
import Derived.Lib.MinMax
namespace Go.Proofs.Ytbhhbddmokddeaa
open Go.RowKit Go.Maps

def uvals (ws : List Nat) : List Value := ws.map fun (x : Nat) => Value.int .u64 (x : Int)

abbrev IsWords (w : World) (A : Option Addr) (n : Nat) (ws : List Nat) : Prop := IsVals w A n (uvals ws)

theorem uvals_length (ws : List Nat) : (uvals ws).length = ws.length := List.length_map _
theorem uvals_append (xs ys : List Nat) : uvals (xs ++ ys) = uvals xs ++ uvals ys := List.map_append

theorem uvals_cell (ws : List Nat) : ∀ u ∈ uvals ws, u.oneCell' = true := by
  intro u hu
  obtain ⟨_, _, rfl⟩ := List.mem_map.1 hu
  rfl

theorem IsWords.len {w : World} {A : Option Addr} {n : Nat} {ws : List Nat} (h : IsWords w A n ws) : ws.length = n := by
  have := h.1
  rwa [uvals_length] at this

theorem IsWords.at_ {w : World} {A : Option Addr} {n : Nat} {ws : List Nat} (h : IsWords w A n ws) {k : Nat} (hk : k < n) : ∃ b o, A = some ⟨b, o, none⟩ ∧ b < w.heap.size ∧ w.cell? ⟨b, o + k, none⟩ = some (.int .u64 (ws.getD k 0 : Nat)) := by
  obtain ⟨b, o, e, hb, hc⟩ := h.2 (by omega)
  refine ⟨b, o, e, hb, hc k _ ?_⟩
  have := h.len
  rw [uvals, List.getElem?_map, List.getD_eq_getElem?_getD, List.getElem?_eq_getElem (by omega)]
  rfl

theorem infoWord : (Try.prog.info? 34).map (fun i => (i.zero, i.size, i.bytes)) = some (some (.int .u64 0), 1, 8) := by kernel_rfl

/-! ### mask, there -/

theorem mask_k {w : World} {k : Nat} (hk : k ≤ 64) (Q : Ending → World → Prop) (hQ : Q (.returned (.int .u64 ((2 ^ k - 1 : Nat) : Int))) w) :
    Calls Try.prog 32 #[.int .i64 k] w Q := by
  have HQ := Lib.hid hQ
  clear hQ
  by_cases h : k = 64
  · subst h
    go_enter Try.func32, Try.ntmps32
    go_wp2
    exact HQ.out
  · have hlt : k < 64 := by omega
    have e : (((2 ^ k - 1 : Nat)) : Int) = IntKind.u64.wrap (IntKind.u64.wrap (2 ^ k) - 1) := by
      have h1 : 2 ^ k < 2 ^ 64 := Nat.pow_lt_pow_right (by omega) hlt
      have h2 : 0 < 2 ^ k := Nat.two_pow_pos k
      rw [IntKind.wrap_u64, IntKind.wrap_u64]
      have h3 : ((2 : Int) ^ k) = ((2 ^ k : Nat) : Int) := by simp
      rw [h3]
      omega
    have HE := Lib.hid e
    clear e h
    go_enter Try.func32, Try.ntmps32
    go_wp2
    have := HQ.out
    rw [HE.out] at this
    exact this

/-- Is a field of k bits from a on there, in n words? -/
def thB (n : Nat) (a k : Int) : Bool := decide (0 ≤ a ∧ 0 ≤ k ∧ k ≤ 64 ∧ a + k ≤ 64 * n)

theorem there_any {w : World} {A : Option Addr} {a k : Int} {n c : Nat} (hn : n ≤ 100000) (Q : Ending → World → Prop) (hQ : Q (.returned (.bool (thB n a k))) w) :
    Calls Try.prog 33 #[.slice A n c, .int .i64 a, .int .i64 k] w Q := by
  have HQ := Lib.hid hQ
  clear hQ
  by_cases h : 0 ≤ a ∧ 0 ≤ k ∧ k ≤ 64 ∧ a + k ≤ 64 * n
  · obtain ⟨h1, h2, h3, h4⟩ := h
    have e : thB n a k = true := by simp [thB, h1, h2, h3, h4]
    rw [e] at HQ
    clear e
    have h5 : a ≤ 64 * (n : Int) := by omega
    have h6 : decide (k ≤ 64 * (n : Int) - a) = true := by rw [decide_eq_true_iff]; omega
    go_enter Try.func33, Try.ntmps33
    go_wp2
    all_goals exact HQ.out
  · have e : thB n a k = false := by simpa [thB] using h
    rw [e] at HQ
    have HN := Lib.hid h
    clear e h
    go_enter Try.func33, Try.ntmps33
    have hf : 0 ≤ a → a ≤ 64 * (n : Int) → 0 ≤ k → k ≤ 64 → decide (k ≤ 64 * (n : Int) - a) = false := by
      intro g1 g2 g3 g4
      rw [decide_eq_false_iff_not]
      intro hk
      exact HN.out ⟨by omega, by omega, by omega, by omega⟩
    have HF := Lib.hid hf
    clear hf
    go_wp2
    all_goals first | exact HQ.out | (simp only [HF.out (by omega) (by omega) (by omega) (by omega)]; exact HQ.out)

theorem shr_lt {x s : Nat} (hx : x < 2 ^ 64) : x >>> s < 2 ^ 64 := by
  rw [Nat.shiftRight_eq_div_pow]; exact Nat.lt_of_le_of_lt (Nat.div_le_self _ _) hx

theorem uvals_set (ws : List Nat) (i x : Nat) : (uvals ws).set i (.int .u64 (x : Int)) = uvals (ws.set i x) := List.map_set.symm

/-- Words of its own, from a bound on. -/
def OwnW (w : World) (m : Nat) (A : Option Addr) (n : Nat) (ws : List Nat) : Prop := IsWords w A n ws ∧ (0 < n → ∃ g, A = some ⟨g, 0, none⟩ ∧ m ≤ g ∧ RowIs w g 34 n (uvals ws))

theorem clone_any {w : World} {A : Option Addr} {n c : Nat} {ws : List Nat} (hx : IsWords w A n ws) (hn : n ≤ 100000) (Q : Ending → World → Prop)
    (hQ : ∀ w' A' c', w'.ownsRow w.heap.size 34 1 (.slice A' n c') n (uvals ws) → Below w.heap.size w w' → Q (.returned (.slice A' n c')) w') :
    Calls Try.prog 34 #[.slice A n c] w Q := by
  have HQ := Lib.hid hQ
  have HX := Lib.hid hx
  clear hQ hx
  have qT := Lib.run_eql_slice_nil w 50 34 A n c 0 0 Try.underlying50
  cases A with
  | none =>
    have hn0 : n = 0 := by
      rcases Nat.eq_zero_or_pos n with h | h
      · exact h
      · obtain ⟨b, o, e, _⟩ := HX.out.2 h
        cases e
    subst hn0
    have hw : uvals ws = [] := List.eq_nil_of_length_eq_zero HX.out.1
    have HW := Lib.hid hw
    clear hw
    simp only [Option.isNone_none] at qT
    go_enter Try.func34, Try.ntmps34
    go_wp2_with fail
    exact HQ.out w none 0 (by rw [HW.out]; exact World.ownsRow_nil _ _ _ _) (Below.refl _ _)
  | some ad =>
    simp only [Option.isNone_some] at qT
    go_enter Try.func34, Try.ntmps34
    go_wp2_with (first
      | (at_builtin; refine wpList_app rfl (.tmp 5) (.tmp 6) 50 rfl w.heap.size 34 Try.underlying50 infoWord rfl (.slice (some ⟨w.heap.size, 0, none⟩) 0 0) 0 [] rfl (own_empty w _ 34 (Nat.le_refl _)) (some ad) n c (uvals ws) rfl (HX.out.alloc _) (uvals_cell _) (by unfold maxLen; omega) (by omega) (by simp) ?_; intro A1 c1 w1 ho1 hg1; rw [Nat.zero_add, List.nil_append] at ho1; have hb1 := Lib.hid (own_grown ((Below.refl _ w).alloc (Nat.le_refl _) _) (own_empty w _ 34 (Nat.le_refl _)) hg1 (by simp)); have HO1 := Lib.hid ho1; clear ho1 hg1))
    exact HQ.out _ _ _ HO1.out hb1.out

set_option maxHeartbeats 800000 in
theorem set_yes {w : World} {A : Option Addr} {a k n c v : Nat} {ws : List Nat} (hx : IsWords w A n ws) (hb : Bnd ws) (hv : v < 2 ^ 64) (hn : n ≤ 100000) (h1 : k ≤ 64) (h2 : a + k ≤ 64 * n) (Q : Ending → World → Prop)
    (hk : 0 < k) (hQ : ∀ w' A' c', OwnW w' w.heap.size A' n (setF ws a k v) → Below w.heap.size w w' → Q (.returned (.tuple #[.slice A' n c', .bool true])) w') :
    Calls Try.prog 31 #[.slice A n c, .int .i64 a, .int .i64 k, .int .u64 v] w Q := by
  have hc := Lib.hid (there_any (w := w) (A := A) (a := (a : Int)) (k := (k : Int)) (c := c) hn)
  have ht : thB n (a : Int) (k : Int) = true := by simp [thB]; omega
  have HT := Lib.hid ht
  have HQ := Lib.hid hQ
  have HB := Lib.hid hb
  have hlen := hx.len
  have HL := Lib.hid hlen
  have hcl := Lib.hid (clone_any (c := c) hx hn)
  have HX := Lib.hid hx
  clear ht hQ hb hx hlen
  have hk0 : k ≠ 0 := by omega
  clear hk
  · have hlt : a / 64 < n := by omega
    have two : ¬ (a % 64 + k ≤ 64) → 64 < a % 64 + k ∧ a / 64 + 1 < n := by intro h; constructor <;> omega
    have TWO := Lib.hid two
    clear two
    have tk : ((k : Int) == 0) = false := by rw [beq_eq_false_iff_ne]; omega
    have hm := Lib.hid (fun W => mask_k (w := W) h1)
    have hml := msk_lt h1
    have hvm : v &&& (2 ^ k - 1) < 2 ^ 64 := Nat.lt_of_le_of_lt Nat.and_le_left hv
    have ha := and64 hv hml
    have hxb := HB.out.getD (a / 64)
    have hsl1 := shl64 (2 ^ k - 1) (a % 64)
    have hsl2 := shl64 (v &&& (2 ^ k - 1)) (a % 64)
    have hb1 : (2 ^ k - 1) <<< (a % 64) % 2 ^ 64 < 2 ^ 64 := Nat.mod_lt _ (by decide)
    have hb2 : (v &&& (2 ^ k - 1)) <<< (a % 64) % 2 ^ 64 < 2 ^ 64 := Nat.mod_lt _ (by decide)
    have han := andn64 hxb hb1
    have hor := or64 (andn_lt (b := (2 ^ k - 1) <<< (a % 64) % 2 ^ 64) hxb) hb2
    by_cases hone : a % 64 + k ≤ 64
    · have hset := set_one (v := v) HB.out hone (by rw [HL.out]; exact hlt)
      unfold lowW at hset
      have hgx : ∀ (w1 : World) (g : Nat), RowIs w1 g 34 n (uvals ws) → w1.cell? ⟨g, a / 64, none⟩ = some (.int .u64 (ws.getD (a / 64) 0 : Nat)) ∧ w1.frozen? ⟨g, a / 64, none⟩ = false := fun w1 g hr => ⟨hr.cell (by
        have := HL.out
        rw [uvals, List.getElem?_map, List.getD_eq_getElem?_getD, List.getElem?_eq_getElem (by omega)]
        rfl), hr.hasBlk.frozen _⟩
      generalize ws.getD (a / 64) 0 = x at *
      generalize 2 ^ k - 1 = m at *
      generalize v &&& m = v' at *
      generalize m <<< (a % 64) % 2 ^ 64 = m1 at *
      generalize v' <<< (a % 64) % 2 ^ 64 = v1 at *
      generalize andn x m1 = x1 at *
      generalize x1 ||| v1 = X at *
      have HS := Lib.hid hset
      have HGX := Lib.hid hgx
      clear hxb hml hvm hb1 hb2 hset hgx
      go_enter Try.func31, Try.ntmps31
      go_wp2_with fail
      refine hc.out _ ?_
      rw [HT.out]
      go_wp2_with fail
      refine hcl.out _ fun w1 A1 c1 ho1 hb1 => ?_
      obtain ⟨g, rfl, hg, hrow⟩ := rowIs_of_own ho1 (by omega)
      have HR := Lib.hid hrow
      have HB1 := Lib.hid hb1
      obtain ⟨gx, gf⟩ := HGX.out w1 g hrow
      clear ho1 hb1 hrow
      go_wp2_with fail
      refine hm.out _ _ ?_
      go_wp2_with fail
      have hi0 : (0 : Int) ≤ (a : Int) / 64 := by omega
      have hi1 : (a : Int) / 64 < (n : Int) := by omega
      have hi2 : ((a : Int) / 64).toNat = a / 64 := by omega
      go_region_with (go_at_call 32; refine hm.out _ _ ?_)
      all_goals
        go_wp2_with fail
        refine HQ.out _ _ _ ?_ ((HB1.out.setCell (p := ⟨g, a / 64, none⟩) hg _).drew)
        have hv := HR.out.set_ (a / 64) (.int .u64 (X : Int))
        rw [uvals_set, HS.out] at hv
        exact ⟨hv.vals, fun _ => ⟨g, rfl, hg, hv⟩⟩
    · obtain ⟨t1, hlt1⟩ := TWO.out hone
      have hset := set_two (v := v) HB.out hv t1 h1 (by rw [HL.out]; exact hlt1)
      have hxb1 := HB.out.getD (a / 64 + 1)
      unfold lowW highW at hset
      have hsr1 := shr64 (2 ^ k - 1) (64 - a % 64)
      have hsr2 := shr64 (v &&& (2 ^ k - 1)) (64 - a % 64)
      have hb3 : (2 ^ k - 1) >>> (64 - a % 64) < 2 ^ 64 := shr_lt hml
      have hb4 : (v &&& (2 ^ k - 1)) >>> (64 - a % 64) < 2 ^ 64 := shr_lt hvm
      have han2 := andn64 hxb1 hb3
      have hor2 := or64 (andn_lt (b := (2 ^ k - 1) >>> (64 - a % 64)) hxb1) hb4
      have hgx : ∀ (w1 : World) (g : Nat), RowIs w1 g 34 n (uvals ws) → (w1.cell? ⟨g, a / 64, none⟩ = some (.int .u64 (ws.getD (a / 64) 0 : Nat)) ∧ w1.frozen? ⟨g, a / 64, none⟩ = false) ∧ (w1.cell? ⟨g, a / 64 + 1, none⟩ = some (.int .u64 (ws.getD (a / 64 + 1) 0 : Nat)) ∧ w1.frozen? ⟨g, a / 64 + 1, none⟩ = false) := fun w1 g hr => ⟨⟨hr.cell (by
        have := HL.out
        rw [uvals, List.getElem?_map, List.getD_eq_getElem?_getD, List.getElem?_eq_getElem (by omega)]
        rfl), hr.hasBlk.frozen _⟩, ⟨hr.cell (by
        have := HL.out
        rw [uvals, List.getElem?_map, List.getD_eq_getElem?_getD, List.getElem?_eq_getElem (by omega)]
        rfl), hr.hasBlk.frozen _⟩⟩
      generalize ws.getD (a / 64) 0 = x at *
      generalize ws.getD (a / 64 + 1) 0 = y at *
      generalize 2 ^ k - 1 = m at *
      generalize v &&& m = v' at *
      generalize m <<< (a % 64) % 2 ^ 64 = m1 at *
      generalize v' <<< (a % 64) % 2 ^ 64 = v1 at *
      generalize m >>> (64 - a % 64) = m2 at *
      generalize v' >>> (64 - a % 64) = v2 at *
      generalize andn x m1 = x1 at *
      generalize x1 ||| v1 = X at *
      generalize andn y m2 = y1 at *
      generalize y1 ||| v2 = Y at *
      have HS := Lib.hid hset
      have HGX := Lib.hid hgx
      clear hxb hxb1 hml hvm hb1 hb2 hb3 hb4 hset hgx
      go_enter Try.func31, Try.ntmps31
      go_wp2_with fail
      refine hc.out _ ?_
      rw [HT.out]
      go_wp2_with fail
      refine hcl.out _ fun w1 A1 c1 ho1 hb1 => ?_
      obtain ⟨g, rfl, hg, hrow⟩ := rowIs_of_own ho1 (by omega)
      have HR := Lib.hid hrow
      have HB1 := Lib.hid hb1
      obtain ⟨⟨gx, gf⟩, gx1, gf1⟩ := HGX.out w1 g hrow
      clear ho1 hb1 hrow
      go_wp2_with fail
      refine hm.out _ _ ?_
      go_wp2_with fail
      have hi0 : (0 : Int) ≤ (a : Int) / 64 := by omega
      have hi1 : (a : Int) / 64 < (n : Int) := by omega
      have hi2 : ((a : Int) / 64).toNat = a / 64 := by omega
      go_region_with (go_at_call 32; refine hm.out _ _ ?_)
      all_goals
        go_wp2_with fail
        have hj0 : (0 : Int) ≤ (a : Int) / 64 + 1 := by omega
        have hj1 : (a : Int) / 64 + 1 < (n : Int) := by omega
        have hj2 : ((a : Int) / 64 + 1).toNat = a / 64 + 1 := by omega
        have hw1 : IntKind.i64.wrap ((a : Int) / 64 + 1) = (a : Int) / 64 + 1 := IntWalk.i64_in _ (by omega)
        have hs0 : (0 : Int) ≤ 64 - (a : Int) % 64 := by omega
        have hs2 : (64 - (a : Int) % 64).toNat = 64 - a % 64 := by omega
        have hs3 : IntKind.i64.wrap (64 - (a : Int) % 64) = 64 - (a : Int) % 64 := IntWalk.i64_in _ (by omega)
        go_region_with (go_at_call 32; refine hm.out _ _ ?_)
        all_goals
          go_wp2_with fail
          refine HQ.out _ _ _ ?_ (by
            have hbb := ((HB1.out.setCell (p := ⟨g, a / 64, none⟩) hg (.int .u64 (X : Int)))).setCell (p := ⟨g, a / 64 + 1, none⟩) hg (.int .u64 (Y : Int))
            first
            | exact hbb
            | exact hbb.drew
            | exact hbb.drew.drew)
          have hv := (HR.out.set_ (a / 64) (.int .u64 (X : Int))).set_ (a / 64 + 1) (.int .u64 (Y : Int))
          rw [uvals_set, uvals_set, HS.out] at hv
          exact ⟨hv.vals, fun _ => ⟨g, rfl, hg, hv⟩⟩

def nv : Option Nat → Value
  | some p => .tuple #[.int .i64 (p : Int), .bool true]
  | none => .tuple #[.int .i64 0, .bool false]

set_option maxHeartbeats 1600000 in
theorem next_any {w : World} {A : Option Addr} {n c : Nat} {ws : List Nat} (hx : IsWords w A n ws) (hb : Bnd ws) (hn : n ≤ 100000) (f : Int) (a : Nat) (hfa : f.toNat = a) (hf63 : f ≤ 9223372036854775807) (Q : Ending → World → Prop)
    (hQ : Q (.returned (nv (nextB ws a))) w) :
    Calls Try.prog 30 #[.slice A n c, .int .i64 f] w Q := by
  have HQ := Lib.hid hQ
  have hlen := hx.len
  have HL := Lib.hid hlen
  have HX := Lib.hid hx
  have HB := Lib.hid hb
  have hm := Lib.hid (fun (W : World) (k : Nat) (hk : k ≤ 64) => mask_k (w := W) hk)
  clear hQ hx hb hlen
  have hmx : max f 0 = (a : Int) := by omega
  have ha63 : a ≤ 9223372036854775807 := by omega
  clear hfa hf63
  go_enter Try.func30, Try.ntmps30
  go_wp2_with fail
  go_loopg [6] (n - a / 64) (fun g i wr => ∃ k : Nat, a / 64 ≤ k ∧ g = n - k ∧ i = .int .i64 (k : Int) ∧ wr = w ∧ ∀ q, a ≤ q → q < 64 * k → bitAt ws q = false)
  case atStart => exact ⟨a / 64, Nat.le_refl _, rfl, by go_num, rfl, fun q _ _ => by omega⟩
  case round =>
    obtain ⟨k, hk, hg, rfl, rfl, hq⟩ := hrel
    have HG := Lib.hid hg
    have HP := Lib.hid hq
    clear hg hq
    by_cases hlt : k < n
    · obtain ⟨b, o, rfl, _, c0⟩ := HX.out.at_ hlt
      have hw : wordFrom ws a k = if k = a / 64 then (ws.getD k 0 >>> (a % 64)) <<< (a % 64) % 2 ^ 64 else ws.getD k 0 := rfl
      have hwl := wordFrom_lt (a := a) (k := k) HB.out
      have HZ := Lib.hid (fun h => wordFrom_zero (ws := ws) hk h HP.out)
      have HF := Lib.hid (fun at' x (s : Srch (wordFrom ws a k) at' x 1) => wordFrom_found hk (by rw [HL.out]; exact hlt) s HP.out)
      have hk6 : k ≤ 100000 := by omega
      generalize ws.getD k 0 = x at *
      generalize hN : wordFrom ws a k = N at *
      have HWL := Lib.hid hwl
      have hcase : (k = a / 64 ∧ ((k : Int) == (a : Int) / 64) = true ∧ (x >>> (a % 64)) <<< (a % 64) % 2 ^ 64 = N) ∨ (((k : Int) == (a : Int) / 64) = false ∧ x = N) := by
        by_cases h : k = a / 64
        · rw [if_pos h] at hw
          exact .inl ⟨h, by rw [beq_iff_eq]; omega, hw.symm⟩
        · rw [if_neg h] at hw
          exact .inr ⟨by rw [beq_eq_false_iff_ne]; omega, hw.symm⟩
      clear hw hN hwl
      rcases hcase with ⟨hka, hke, hxN⟩ | ⟨hke, rfl⟩
      · have hs := shr64 x (a % 64)
        generalize x >>> (a % 64) = y at *
        have hl := shl64 y (a % 64)
        rw [hxN] at hl
        have HK := Lib.hid hk
        clear hxN hk hka
        by_cases hN0 : N = 0
        · have HN0 := Lib.hid hN0
          have hb0 : ((N : Int) == 0) = true := by rw [beq_iff_eq]; omega
          clear hN0
          go_wp2_with fail
          go_roundg (n - (k + 1))
          case measure => have := HG.out; omega
          case rel => exact ⟨k + 1, by have := HK.out; omega, rfl, by go_num, rfl, HZ.out HN0.out⟩
        · have hst := Lib.hid (Srch.start hN0 HWL.out)
          have hb0 : ((N : Int) == 0) = false := by rw [beq_eq_false_iff_ne]; omega
          clear hN0
          go_wp2_with fail
          simp only [hs, hl]
          go_loopg [7, 8, 9] 32 (fun g x t h wi => ∃ (z' t' h' e : Nat), g = h' ∧ x = .int .u64 (z' : Int) ∧ t = .int .i64 (t' : Int) ∧ h = .int .i64 (h' : Int) ∧ wi = wr ∧ e ≤ 6 ∧ Hid (h' = 2 ^ e / 2 ∧ Srch N t' z' (2 ^ e)))
          case atStart => exact ⟨N, 0, 32, 6, rfl, rfl, rfl, rfl, rfl, by omega, Lib.hid ⟨rfl, hst.out⟩⟩
          case round =>
            obtain ⟨z', t', h', e, hg2, rfl, rfl, rfl, rfl, he6, HS⟩ := hrel
            have HG2 := Lib.hid hg2
            clear hg2
            have hfit : t' ≤ 64 := Nat.le_trans (Nat.le_add_right _ _) HS.out.2.fit
            rcases Nat.eq_zero_or_pos e with he0 | he0
            · subst he0
              obtain rfl : h' = 0 := HS.out.1
              have hfin := HQ.out
              rw [HF.out t' z' HS.out.2] at hfin
              have HFIN := Lib.hid hfin
              clear hfin
              go_wp2_with fail
              have := HFIN.out
              rw [show nv (some (64 * k + t')) = Value.tuple #[.int .i64 ((64 * k + t' : Nat) : Int), .bool true] from rfl, show ((64 * k + t' : Nat) : Int) = (k : Int) * 64 + t' by omega] at this
              exact this
            · obtain ⟨e', rfl⟩ : ∃ e', e = e' + 1 := ⟨e - 1, by omega⟩
              have hh : h' = 2 ^ e' ∧ Srch N t' z' (2 * h') := by
                obtain ⟨g1, g2⟩ := HS.out
                have g3 : h' = 2 ^ e' := by rw [g1, Nat.pow_succ, Nat.mul_div_cancel _ (by omega)]
                refine ⟨g3, ?_⟩
                rw [g3, Nat.mul_comm, ← Nat.pow_succ]
                exact g2
              have hh32 : h' ≤ 32 := by rw [hh.1]; exact Nat.le_trans (Nat.pow_le_pow_right (by omega) (show e' ≤ 5 by omega)) (by decide)
              have hh0 : 0 < h' := by rw [hh.1]; exact Nat.two_pow_pos _
              have hnext : 2 ^ e' / 2 = h' / 2 := by rw [hh.1]
              have hm2 := Lib.hid (hm.out wr h' (by omega))
              have hml := msk_lt (k := h') (by omega)
              have hzl := hh.2.lt
              have ha := and64 hzl hml
              have hsr := shr64 z' h'
              have HU := Lib.hid (fun h => hh.2.up (h := h') h)
              have HD := Lib.hid (fun h => hh.2.down (h := h') h)
              have HN2 := Lib.hid hnext
              have HH1 := Lib.hid hh.1
              generalize 2 ^ h' - 1 = m at *
              generalize z' &&& m = zz at *
              generalize z' >>> h' = z2 at *
              clear hml hzl hh HS hnext
              by_cases hz0 : zz = 0
              · have HZ0 := Lib.hid hz0
                have hb1 : ((zz : Int) == 0) = true := by rw [beq_iff_eq]; omega
                clear hz0
                go_wp2_with fail
                refine hm2.out _ ?_
                go_wp2_with fail
                go_roundg (h' / 2)
                case measure => have := HG2.out; omega
                case rel => exact ⟨z2, t' + h', h' / 2, e', rfl, rfl, by go_num, by go_num, rfl, by omega, Lib.hid ⟨by rw [HN2.out], by rw [← HH1.out]; exact HU.out HZ0.out⟩⟩
              · have HZ0 := Lib.hid hz0
                have hb1 : ((zz : Int) == 0) = false := by rw [beq_eq_false_iff_ne]; omega
                clear hz0
                go_wp2_with fail
                refine hm2.out _ ?_
                go_wp2_with fail
                go_roundg (h' / 2)
                case measure => have := HG2.out; omega
                case rel => exact ⟨z', t', h' / 2, e', rfl, rfl, rfl, by go_num, rfl, by omega, Lib.hid ⟨by rw [HN2.out], by rw [← HH1.out]; exact HD.out HZ0.out⟩⟩
      · have HK := Lib.hid hk
        clear hk
        by_cases hN0 : x = 0
        · have HN0 := Lib.hid hN0
          have hb0 : ((x : Int) == 0) = true := by rw [beq_iff_eq]; omega
          clear hN0
          go_wp2_with fail
          go_roundg (n - (k + 1))
          case measure => have := HG.out; omega
          case rel => exact ⟨k + 1, by have := HK.out; omega, rfl, by go_num, rfl, HZ.out HN0.out⟩
        · have hst := Lib.hid (Srch.start hN0 HWL.out)
          have hb0 : ((x : Int) == 0) = false := by rw [beq_eq_false_iff_ne]; omega
          clear hN0
          go_wp2_with fail
          go_loopg [7, 8, 9] 32 (fun g xx t h wi => ∃ (z' t' h' e : Nat), g = h' ∧ xx = .int .u64 (z' : Int) ∧ t = .int .i64 (t' : Int) ∧ h = .int .i64 (h' : Int) ∧ wi = wr ∧ e ≤ 6 ∧ Hid (h' = 2 ^ e / 2 ∧ Srch x t' z' (2 ^ e)))
          case atStart => exact ⟨x, 0, 32, 6, rfl, rfl, rfl, rfl, rfl, by omega, Lib.hid ⟨rfl, hst.out⟩⟩
          case round =>
            obtain ⟨z', t', h', e, hg2, rfl, rfl, rfl, rfl, he6, HS⟩ := hrel
            have HG2 := Lib.hid hg2
            clear hg2
            have hfit : t' ≤ 64 := Nat.le_trans (Nat.le_add_right _ _) HS.out.2.fit
            rcases Nat.eq_zero_or_pos e with he0 | he0
            · subst he0
              obtain rfl : h' = 0 := HS.out.1
              have hfin := HQ.out
              rw [HF.out t' z' HS.out.2] at hfin
              have HFIN := Lib.hid hfin
              clear hfin
              go_wp2_with fail
              have := HFIN.out
              rw [show nv (some (64 * k + t')) = Value.tuple #[.int .i64 ((64 * k + t' : Nat) : Int), .bool true] from rfl, show ((64 * k + t' : Nat) : Int) = (k : Int) * 64 + t' by omega] at this
              exact this
            · obtain ⟨e', rfl⟩ : ∃ e', e = e' + 1 := ⟨e - 1, by omega⟩
              have hh : h' = 2 ^ e' ∧ Srch x t' z' (2 * h') := by
                obtain ⟨g1, g2⟩ := HS.out
                have g3 : h' = 2 ^ e' := by rw [g1, Nat.pow_succ, Nat.mul_div_cancel _ (by omega)]
                refine ⟨g3, ?_⟩
                rw [g3, Nat.mul_comm, ← Nat.pow_succ]
                exact g2
              have hh32 : h' ≤ 32 := by rw [hh.1]; exact Nat.le_trans (Nat.pow_le_pow_right (by omega) (show e' ≤ 5 by omega)) (by decide)
              have hh0 : 0 < h' := by rw [hh.1]; exact Nat.two_pow_pos _
              have hnext : 2 ^ e' / 2 = h' / 2 := by rw [hh.1]
              have hm2 := Lib.hid (hm.out wr h' (by omega))
              have hml := msk_lt (k := h') (by omega)
              have hzl := hh.2.lt
              have ha := and64 hzl hml
              have hsr := shr64 z' h'
              have HU := Lib.hid (fun h => hh.2.up (h := h') h)
              have HD := Lib.hid (fun h => hh.2.down (h := h') h)
              have HN2 := Lib.hid hnext
              have HH1 := Lib.hid hh.1
              generalize 2 ^ h' - 1 = m at *
              generalize z' &&& m = zz at *
              generalize z' >>> h' = z2 at *
              clear hml hzl hh HS hnext
              by_cases hz0 : zz = 0
              · have HZ0 := Lib.hid hz0
                have hb1 : ((zz : Int) == 0) = true := by rw [beq_iff_eq]; omega
                clear hz0
                go_wp2_with fail
                refine hm2.out _ ?_
                go_wp2_with fail
                go_roundg (h' / 2)
                case measure => have := HG2.out; omega
                case rel => exact ⟨z2, t' + h', h' / 2, e', rfl, rfl, by go_num, by go_num, rfl, by omega, Lib.hid ⟨by rw [HN2.out], by rw [← HH1.out]; exact HU.out HZ0.out⟩⟩
              · have HZ0 := Lib.hid hz0
                have hb1 : ((zz : Int) == 0) = false := by rw [beq_eq_false_iff_ne]; omega
                clear hz0
                go_wp2_with fail
                refine hm2.out _ ?_
                go_wp2_with fail
                go_roundg (h' / 2)
                case measure => have := HG2.out; omega
                case rel => exact ⟨z', t', h' / 2, e', rfl, rfl, rfl, by go_num, rfl, by omega, Lib.hid ⟨by rw [HN2.out], by rw [← HH1.out]; exact HD.out HZ0.out⟩⟩
    · have hfin := HQ.out
      rw [nextB_none.2 fun q h1 h2 => HP.out q h1 (by rw [HL.out] at h2; omega)] at hfin
      have HF := Lib.hid hfin
      clear hfin
      go_wp2_with fail
      exact HF.out

end Go.Proofs.Ytbhhbddmokddeaa
