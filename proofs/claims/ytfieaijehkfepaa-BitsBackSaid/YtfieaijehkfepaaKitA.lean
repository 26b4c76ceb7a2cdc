/-
  How arguments that came in are opened: arrays of ints; words.
-/
import Derived.Test.YtfieaijehkfepaaKitP
import Derived.WideKeyPair
namespace Go.Proofs.Ytfieaijehkfepaa
open Go.ChangeShapes Go.WideShapes Go.ChangeAt Go.RowKit Go.Deep
section
variable {H : Type} {enc : TypeId × Value → H} {P : Program} {W : World} {base : Nat} {sp : Nat → Bool} {held : Bool}

theorem arg_arr {t e : TypeId} {n : Nat} {k : IntKind} (ht : P.underlying t = some (.array n e)) (he : P.underlying e = some (.int k)) (hc : P.cellsOf e = 1) (hct : P.cellsOf t = n)
    {r : Reach} {b0 : Nat} {v : Value} {d : DataW H} {ps : List MemPlace} (hval : Value.okWide P W r b0 t v) (hd : DataW.Trod enc P W base sp held t v d ps) :
    ∃ zs : List Int, zs.length = n ∧ v = .agg (zs.map (.int k)).toArray ∧ ∀ x ∈ zs, (Lit.int k x).wf = true := by
  simp only [Value.okWide, ht] at hval
  obtain ⟨cs, rfl, hsz, _⟩ := hval
  rw [hct] at hsz
  obtain ⟨fuel, hf⟩ := hd
  obtain ⟨xs, m, _, _, _, hl, hx⟩ := DataW.trod_array ht hf
  obtain ⟨l⟩ := cs
  have hsz' : l.length = n := hsz
  have hat : ∀ i (hi : i < l.length), ∃ a, l[i] = .int k a ∧ (Lit.int k a).wf = true := by
    intro i hi
    have h1 := hx i (by omega)
    rw [List.getElem?_eq_getElem (by omega)] at h1
    rw [hc] at h1
    obtain ⟨a, e1, _, w1⟩ := DataW.trod_int he h1
    refine ⟨a, ?_, w1⟩
    have h2 : (List.drop (i * 1) (Value.agg ⟨l⟩).cells.toList).take 1 = [l[i]] := by
      show (List.drop (i * 1) l).take 1 = [l[i]]
      rw [Nat.mul_one, List.drop_eq_getElem_cons hi]
      rfl
    rw [h2] at e1
    simpa using e1
  refine ⟨l.map fun v => match v with | .int _ a => a | _ => 0, by rw [List.length_map, hsz'], ?_, fun x hx' => ?_⟩
  · congr 1
    refine Array.ext' ?_
    show l = _
    refine List.ext_getElem (by simp) fun i h1 h2 => ?_
    obtain ⟨a, ha, _⟩ := hat i h1
    simp [ha]
  · obtain ⟨v, hv, rfl⟩ := List.mem_map.1 hx'
    obtain ⟨i, hi, rfl⟩ := List.mem_iff_getElem.1 hv
    obtain ⟨a, ha, wa⟩ := hat i hi
    rw [ha]
    exact wa
end

theorem nat_of_u64 {x : Int} (h : (Lit.int .u64 x).wf = true) : ∃ n : Nat, x = (n : Int) ∧ n < 2 ^ 64 := by
  have := bounds_u64 h
  exact ⟨x.toNat, by omega, by omega⟩
end Go.Proofs.Ytfieaijehkfepaa
