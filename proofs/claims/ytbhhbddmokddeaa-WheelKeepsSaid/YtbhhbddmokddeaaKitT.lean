/-
  How an argument that is a slice of structs of three ints is opened.
-/
import Derived.Test.YtbhhbddmokddeaaKitP
namespace Go.Proofs.Ytbhhbddmokddeaa
open Go.ChangeShapes Go.WideShapes Go.ChangeAt Go.RowKit Go.Deep

abbrev Tri := Int × Int × Int

/-- A slice's cells read as triples of ints. -/
def IsTris (w : World) (A : Option Addr) (n : Nat) (ps : List Tri) : Prop :=
  ps.length = n ∧ (0 < n → ∃ b o, A = some ⟨b, o, none⟩ ∧ b < w.heap.size ∧ ∀ j p, ps[j]? = some p → w.cell? ⟨b, o + j * 3, none⟩ = some (.int .i64 p.1) ∧ w.cell? ⟨b, o + j * 3 + 1, none⟩ = some (.int .i64 p.2.1) ∧ w.cell? ⟨b, o + j * 3 + 2, none⟩ = some (.int .i64 p.2.2))

theorem IsTris.at_ {w : World} {A : Option Addr} {n : Nat} {ps : List Tri} (h : IsTris w A n ps) {k : Nat} (hk : k < n) :
    ∃ b o, A = some ⟨b, o, none⟩ ∧ b < w.heap.size ∧ w.cell? ⟨b, o + k * 3, none⟩ = some (.int .i64 (ps.getD k (0, 0, 0)).1) ∧ w.cell? ⟨b, o + k * 3 + 1, none⟩ = some (.int .i64 (ps.getD k (0, 0, 0)).2.1) ∧ w.cell? ⟨b, o + k * 3 + 2, none⟩ = some (.int .i64 (ps.getD k (0, 0, 0)).2.2) := by
  obtain ⟨b, o, e, hl, hc⟩ := h.2 (by omega)
  have hlt : k < ps.length := by have := h.1; omega
  have := hc k ps[k] (List.getElem?_eq_getElem hlt)
  refine ⟨b, o, e, hl, ?_⟩
  rw [List.getD_eq_getElem?_getD, List.getElem?_eq_getElem hlt]
  exact this

def TriOk (x : Tri) : Prop := (Lit.int .i64 x.1).wf = true ∧ (Lit.int .i64 x.2.1).wf = true ∧ (Lit.int .i64 x.2.2).wf = true

section
variable {H : Type} {enc : TypeId × Value → H} {P : Program} {W : World} {sp : Nat → Bool} {held : Bool}

theorem arg_triples {T E : TypeId} {f0 f1 f2 : Field} {a : Option Addr} {len cap : Nat} {d : DataW H} {p : List MemPlace} (hT : P.underlying T = some (.slice E)) (hE : P.underlying E = some (.struct #[f0, f1, f2]))
    (ce : P.cellsOf E = 3) (o0 : f0.offset = 0) (o1 : f1.offset = 1) (o2 : f2.offset = 2) (c0 : P.cellsOf f0.type = 1) (c1 : P.cellsOf f1.type = 1) (c2 : P.cellsOf f2.type = 1)
    (h0 : P.underlying f0.type = some (.int .i64)) (h1 : P.underlying f1.type = some (.int .i64)) (h2 : P.underlying f2.type = some (.int .i64))
    (h : DataW.Trod enc P W 0 sp held T (.slice a len cap) d p) : ∃ ps : List Tri, IsTris W a len ps ∧ len ≤ maxLen ∧ ∀ x ∈ ps, TriOk x := by
  obtain ⟨fuel, hf⟩ := h
  rcases open_slice hT hf with ⟨hcs, _⟩ | ⟨x, l, c, m, n, D, Pl, hcs, hb, hl, hm, hmm, _, hx⟩
  · simp [Value.cells] at hcs
    obtain ⟨rfl, rfl, rfl⟩ := hcs
    exact ⟨[], ⟨rfl, fun h => absurd h (by omega)⟩, by unfold maxLen; omega, by simp⟩
  · simp [Value.cells] at hcs
    obtain ⟨rfl, rfl, rfl⟩ := hcs
    have hlm : len ≤ m := by rw [hmm]; split <;> omega
    have each : ∀ i, i < m → ∃ q : Tri, W.cell? (x.add (i * 3)) = some (.int .i64 q.1) ∧ W.cell? (x.add (i * 3 + 1)) = some (.int .i64 q.2.1) ∧ W.cell? (x.add (i * 3 + 2)) = some (.int .i64 q.2.2) ∧ TriOk q := fun i him => by
      obtain ⟨cs', g1, g2⟩ := hx i him
      rw [ce] at g1
      obtain ⟨_, hlen, hcell⟩ := World.cells?_some g1
      obtain ⟨xs, k, hk, hxy, _, hxl, hff⟩ := DataW.trod_struct hE g2
      match xs, hxl, cs', hlen with
      | [y0, y1, y2], _, [v0, v1, v2], _ =>
        have t0 := hff 0 f0 rfl
        have t1 := hff 1 f1 rfl
        have t2 := hff 2 f2 rfl
        simp [o0, o1, o2, c0, c1, c2] at t0 t1 t2
        have e0 := hcell 0 (by omega)
        have e1 := hcell 1 (by omega)
        have e2 := hcell 2 (by omega)
        rw [add_add] at e0 e1 e2
        obtain ⟨q0, r0, _, w0⟩ := DataW.trod_int h0 t0
        obtain ⟨q1, r1, _, w1⟩ := DataW.trod_int h1 t1
        obtain ⟨q2, r2, _, w2⟩ := DataW.trod_int h2 t2
        simp only [List.cons.injEq, and_true] at r0 r1 r2
        subst r0 r1 r2
        exact ⟨(q0, q1, q2), by simpa using e0, by simpa using e1, by simpa using e2, w0, w1, w2⟩
    obtain ⟨q, hq⟩ := choose_lt each
    refine ⟨(List.range len).map q, ⟨by simp, fun hn => ?_⟩, by omega, fun y hy => ?_⟩
    · have hs : x.spot = none := spot_none (a := x) (by have := (hq 0 (by omega)).1; rwa [show x.add (0 * 3) = x by unfold Addr.add; simp] at this)
      refine ⟨x.block, x.off, by obtain ⟨b, o, s⟩ := x; cases hs; rfl, ?_, fun j u hj => ?_⟩
      · have := (hq 0 (by omega)).1; rw [add_of hs] at this; exact World.block_lt_of_cell? W ⟨x.block, _, none⟩ this
      · rw [List.getElem?_map] at hj
        by_cases hjl : j < len
        · rw [List.getElem?_range hjl] at hj
          simp only [Option.map_some, Option.some.injEq] at hj
          subst hj
          have := hq j (by omega)
          rw [add_of hs, add_of hs, add_of hs, ← Nat.add_assoc, ← Nat.add_assoc] at this
          exact ⟨this.1, this.2.1, this.2.2.1⟩
        · rw [List.getElem?_eq_none (by simpa using hjl)] at hj
          cases hj
    · obtain ⟨i, hi', rfl⟩ := List.mem_map.1 hy
      have := hq i (by have := List.mem_range.1 hi'; omega)
      exact this.2.2.2
end
end Go.Proofs.Ytbhhbddmokddeaa
