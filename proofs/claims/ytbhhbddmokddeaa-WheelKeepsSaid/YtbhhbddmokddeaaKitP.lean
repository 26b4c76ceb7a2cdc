/-
  How arguments that came in are opened: slices of ints, slices of pairs of ints.
-/
import Derived.Test.YtbhhbddmokddeaaKit
import Derived.ProofKit
import Derived.OpenShut
import Derived.ChangeOld
import Derived.Deep.SlicePairs
namespace Go.Proofs.Ytbhhbddmokddeaa
open Go.ChangeShapes Go.WideShapes Go.ChangeAt Go.RowKit Go.Deep

/-- A slice's cells read as pairs of ints. -/
def IsPairs (w : World) (A : Option Addr) (n : Nat) (ps : List (Int × Int)) : Prop :=
  ps.length = n ∧ (0 < n → ∃ b o, A = some ⟨b, o, none⟩ ∧ b < w.heap.size ∧ ∀ j p, ps[j]? = some p → w.cell? ⟨b, o + j * 2, none⟩ = some (.int .i64 p.1) ∧ w.cell? ⟨b, o + j * 2 + 1, none⟩ = some (.int .i64 p.2))

theorem IsPairs.below {w w' : World} {A : Option Addr} {n : Nat} {ps : List (Int × Int)} (h : IsPairs w A n ps) (hb : Below w.heap.size w w') : IsPairs w' A n ps :=
  ⟨h.1, fun hn => by
    obtain ⟨b, o, e, hl, hc⟩ := h.2 hn
    exact ⟨b, o, e, Nat.lt_of_lt_of_le hl hb.size, fun j p hj => ⟨(hb.cell (p := ⟨b, _, none⟩) hl).trans (hc j p hj).1, (hb.cell (p := ⟨b, _, none⟩) hl).trans (hc j p hj).2⟩⟩⟩

theorem IsPairs.at_ {w : World} {A : Option Addr} {n : Nat} {ps : List (Int × Int)} (h : IsPairs w A n ps) {k : Nat} (hk : k < n) :
    ∃ b o, A = some ⟨b, o, none⟩ ∧ b < w.heap.size ∧ w.cell? ⟨b, o + k * 2, none⟩ = some (.int .i64 (ps.getD k (0, 0)).1) ∧ w.cell? ⟨b, o + k * 2 + 1, none⟩ = some (.int .i64 (ps.getD k (0, 0)).2) := by
  obtain ⟨b, o, e, hl, hc⟩ := h.2 (by omega)
  have hlt : k < ps.length := by have := h.1; omega
  have := hc k ps[k] (List.getElem?_eq_getElem hlt)
  refine ⟨b, o, e, hl, ?_⟩
  rw [List.getD_eq_getElem?_getD, List.getElem?_eq_getElem hlt]
  exact this

theorem spot_none {w : World} {a : Addr} {v : Value} (h : w.cell? a = some v) : a.spot = none := by
  unfold World.cell? at h
  split at h
  · split at h
    · cases h
    · rename_i hs; simpa using hs
  · cases h

theorem add_of {a : Addr} (h : a.spot = none) (n : Nat) : a.add n = ⟨a.block, a.off + n, none⟩ := by
  obtain ⟨b, o, s⟩ := a
  cases h
  rw [Addr.add_lit]

section
variable {H : Type} {enc : TypeId × Value → H} {P : Program} {W : World} {sp : Nat → Bool} {held : Bool}

theorem arg_ints {T E : TypeId} {k : IntKind} {a : Option Addr} {len cap : Nat} {d : DataW H} {p : List MemPlace} (hT : P.underlying T = some (.slice E)) (hE : P.underlying E = some (.int k)) (hC : P.cellsOf E = 1)
    (h : DataW.Trod enc P W 0 sp held T (.slice a len cap) d p) : ∃ xs : List Int, IsVals W a len (xs.map (.int k)) ∧ len ≤ maxLen ∧ ∀ x ∈ xs, (Lit.int k x).wf = true := by
  obtain ⟨fuel, hf⟩ := h
  rcases open_ints hT hE hC hf with ⟨hcs, _⟩ | ⟨x, l, c, zs, hcs, _, hl, hm, hz, _, hcell, hwz⟩
  · simp [Value.cells] at hcs
    obtain ⟨rfl, rfl, rfl⟩ := hcs
    exact ⟨[], IsVals.nil _ _, by unfold maxLen; omega, by simp⟩
  · simp [Value.cells] at hcs
    obtain ⟨rfl, rfl, rfl⟩ := hcs
    have hlz : len ≤ zs.length := by rw [hz]; split <;> omega
    refine ⟨zs.take len, ⟨by simp; omega, fun hn => ?_⟩, by omega, fun x hx => hwz x (List.mem_of_mem_take hx)⟩
    have hs : x.spot = none := spot_none (a := x) (by have := hcell 0 (by omega); rwa [show x.add 0 = x by unfold Addr.add; simp] at this)
    refine ⟨x.block, x.off, by obtain ⟨b, o, s⟩ := x; cases hs; rfl, ?_, fun j u hj => ?_⟩
    · have := hcell 0 (by omega); rw [add_of hs] at this; exact World.block_lt_of_cell? W ⟨x.block, _, none⟩ this
    · rw [List.getElem?_map, List.getElem?_take] at hj
      split at hj
      · rename_i hjl
        have := hcell j (by omega)
        rw [add_of hs] at this
        rw [this]
        rw [List.getElem?_eq_getElem (by omega)] at hj
        simp only [Option.map_some, Option.some.injEq] at hj
        rw [← hj, List.getD_eq_getElem?_getD, List.getElem?_eq_getElem (by omega)]
        rfl
      · cases hj

theorem arg_pairs {T E : TypeId} {f0 f1 : Field} {a : Option Addr} {len cap : Nat} {d : DataW H} {p : List MemPlace} (hT : P.underlying T = some (.slice E)) (hE : P.underlying E = some (.struct #[f0, f1]))
    (ce : P.cellsOf E = 2) (o0 : f0.offset = 0) (o1 : f1.offset = 1) (c0 : P.cellsOf f0.type = 1) (c1 : P.cellsOf f1.type = 1) (h0 : P.underlying f0.type = some (.int .i64)) (h1 : P.underlying f1.type = some (.int .i64))
    (h : DataW.Trod enc P W 0 sp held T (.slice a len cap) d p) : ∃ ps : List (Int × Int), IsPairs W a len ps ∧ len ≤ maxLen ∧ ∀ x ∈ ps, (Lit.int .i64 x.1).wf = true ∧ (Lit.int .i64 x.2).wf = true := by
  obtain ⟨fuel, hf⟩ := h
  rcases open_slice_pairs hT hE ce o0 o1 c0 c1 hf with ⟨hcs, _⟩ | ⟨x, l, c, m, n, V0, V1, D0, D1, P0, P1, hcs, _, hl, hm, hmm, _, hi⟩
  · simp [Value.cells] at hcs
    obtain ⟨rfl, rfl, rfl⟩ := hcs
    exact ⟨[], ⟨rfl, fun h => absurd h (by omega)⟩, by unfold maxLen; omega, by simp⟩
  · simp [Value.cells] at hcs
    obtain ⟨rfl, rfl, rfl⟩ := hcs
    have hlm : len ≤ m := by rw [hmm]; split <;> omega
    have each : ∀ i, i < m → ∃ q : Int × Int, W.cell? (x.add (i * 2)) = some (.int .i64 q.1) ∧ W.cell? (x.add (i * 2 + 1)) = some (.int .i64 q.2) ∧ (Lit.int .i64 q.1).wf = true ∧ (Lit.int .i64 q.2).wf = true := fun i him => by
      obtain ⟨e0, e1, t0, t1⟩ := hi i him
      obtain ⟨q0, r0, _, w0⟩ := DataW.trod_int h0 t0
      obtain ⟨q1, r1, _, w1⟩ := DataW.trod_int h1 t1
      simp only [List.cons.injEq, and_true] at r0 r1
      exact ⟨(q0, q1), by rw [e0, r0], by rw [e1, r1], w0, w1⟩
    obtain ⟨q, hq⟩ := choose_lt each
    refine ⟨(List.range len).map q, ⟨by simp, fun hn => ?_⟩, by omega, fun y hy => ?_⟩
    · have hs : x.spot = none := spot_none (a := x) (by have := (hq 0 (by omega)).1; rwa [show x.add (0 * 2) = x by unfold Addr.add; simp] at this)
      refine ⟨x.block, x.off, by obtain ⟨b, o, s⟩ := x; cases hs; rfl, ?_, fun j u hj => ?_⟩
      · have := (hq 0 (by omega)).1; rw [add_of hs] at this; exact World.block_lt_of_cell? W ⟨x.block, _, none⟩ this
      · rw [List.getElem?_map] at hj
        by_cases hjl : j < len
        · rw [List.getElem?_range hjl] at hj
          simp only [Option.map_some, Option.some.injEq] at hj
          subst hj
          have := hq j (by omega)
          rw [add_of hs, add_of hs, ← Nat.add_assoc] at this
          exact ⟨this.1, this.2.1⟩
        · rw [List.getElem?_eq_none (by simpa using hjl)] at hj
          cases hj
    · obtain ⟨i, hi', rfl⟩ := List.mem_map.1 hy
      have := hq i (by have := List.mem_range.1 hi'; omega)
      exact this.2.2
end
end Go.Proofs.Ytbhhbddmokddeaa
