/-
  All rows one behind the other; what has been met: plain laws, no program. A map's lookup where nothing is.
-/
import Derived.Test.YtbhhbddmokddeaaWsA
import Derived.Test.YtbhhbddmokddeaaKitT
namespace Go.Proofs.Ytbhhbddmokddeaa
open Go.RowKit Go.Maps

def maskTo (L : Nat → List Int) (n : Nat) : Nat := ofB (fun t => !(L t).isEmpty) n

def metTo (L : Nat → List Int) : Nat → List Int
  | 0 => []
  | n + 1 => metTo L n ++ L n

theorem metTo_skip {L : Nat → List Int} {a : Nat} : ∀ {s : Nat}, a ≤ s → (∀ t, a ≤ t → t < s → L t = []) → metTo L s = metTo L a
  | 0, h, _ => by obtain rfl : a = 0 := by omega
                  rfl
  | s + 1, h, h0 => by
    rcases Nat.eq_or_lt_of_le h with e | e
    · rw [e]
    · rw [metTo, metTo_skip (by omega) fun t h1 h2 => h0 t h1 (by omega), h0 s (by omega) (by omega), List.append_nil]

theorem maskTo_skip {L : Nat → List Int} {a : Nat} : ∀ {s : Nat}, a ≤ s → (∀ t, a ≤ t → t < s → L t = []) → maskTo L s = maskTo L a
  | 0, h, _ => by obtain rfl : a = 0 := by omega
                  rfl
  | s + 1, h, h0 => by
    rcases Nat.eq_or_lt_of_le h with e | e
    · rw [e]
    · have := maskTo_skip (L := L) (a := a) (s := s) (by omega) fun t h1 h2 => h0 t h1 (by omega)
      unfold maskTo at this ⊢
      rw [ofB, this, h0 s (by omega) (by omega)]
      rfl

theorem maskTo_succ {L : Nat → List Int} {s : Nat} (h : L s ≠ []) : maskTo L (s + 1) = maskTo L s + 2 ^ s := by
  unfold maskTo
  rw [ofB]
  have : (!(L s).isEmpty) = true := by simpa using h
  rw [if_pos this]

theorem maskTo_lt (L : Nat → List Int) (n : Nat) : maskTo L n < 2 ^ n := ofB_lt _ _

theorem maskL_to (L : Nat → List Int) : maskL L 0 64 = maskTo L 64 := ofB_congr fun _ _ => by rw [Nat.zero_add]

theorem mem_metTo {L : Nat → List Int} {x : Int} : ∀ {n : Nat}, x ∈ metTo L n ↔ ∃ t, t < n ∧ x ∈ L t
  | 0 => by simp [metTo]
  | n + 1 => by
    rw [metTo, List.mem_append, mem_metTo]
    constructor
    · rintro (⟨t, h1, h2⟩ | h)
      · exact ⟨t, by omega, h2⟩
      · exact ⟨n, by omega, h⟩
    · rintro ⟨t, h1, h2⟩
      by_cases e : t = n
      · subst e; exact .inr h2
      · exact .inl ⟨t, by omega, h2⟩

theorem metTo_len (L : Nat → List Int) : ∀ n : Nat, (metTo L n).length = sumTo (fun s => (L s).length) n
  | 0 => rfl
  | n + 1 => by rw [metTo, List.length_append, metTo_len L n, sumTo]

theorem metTo_lenL (L : Nat → List Int) : (metTo L 64).length = lenL L := metTo_len L 64

theorem metTo_le {L : Nat → List Int} {s i : Nat} (hs : s < 64) (hi : i ≤ (L s).length) : (metTo L s).length + i ≤ lenL L := by
  have h : ∀ n, s < n → (metTo L s).length + i ≤ (metTo L n).length := by
    intro n
    induction n with
    | zero => intro h; omega
    | succ n ih =>
      intro h
      rw [metTo, List.length_append]
      by_cases e : s = n
      · subst e; omega
      · have := ih (by omega); omega
  rw [← metTo_lenL]
  exact h 64 hs

/-- The id at i of row s is not among those met before it. -/
theorem met_new {L : Nat → List Int} (hg : Good L) {s i : Nat} (hs : s < 64) (hi : i < (L s).length) : (L s).getD i 0 ∉ metTo L s ++ (L s).take i := by
  have hx : (L s).getD i 0 = (L s)[i] := by rw [List.getD_eq_getElem?_getD, List.getElem?_eq_getElem hi]; rfl
  rw [hx]
  intro h
  rcases List.mem_append.1 h with h | h
  · obtain ⟨t, h1, h2⟩ := mem_metTo.1 h
    have := hg.dis s t hs (by omega) _ (List.getElem_mem hi) h2
    omega
  · obtain ⟨j, hj, e⟩ := List.mem_take_iff_getElem.1 h
    have := (List.getElem_inj (hg.nd s hs)).1 e
    omega

theorem take_snoc {l : List Int} {i : Nat} (hi : i < l.length) : l.take (i + 1) = l.take i ++ [l.getD i 0] := by
  rw [List.take_succ_eq_append_getElem hi, List.getD_eq_getElem?_getD, List.getElem?_eq_getElem hi]
  rfl

theorem getD_mem {l : List Int} {i : Nat} (hi : i < l.length) : l.getD i 0 ∈ l := by
  rw [List.getD_eq_getElem?_getD, List.getElem?_eq_getElem hi]
  exact List.getElem_mem hi

section
variable {P : Program} (w : World) {ops : Array Oper} {rest : List Oper} {o : Oper} {a : Act} {Q : Exit → Act → World → Prop}

/-- 'm[k]' (without 'ok'), k not there. -/
theorem wpList_look0 (hw : Region.wanted o (yielded ops a.tmps) = true) (m x : Operand) (t : TypeId) (hop : o.op = Op.lookup t m x false)
    (k e : TypeId) (hk : P.underlying k = some (.int .i64)) (ht : P.underlying t = some (.map k e)) {z : Value} (hz : (zeroValue e).run P w = .ok z w) (b n sz : Nat) (f : Int → Option Value)
    (hm : a.eval m = .map (some b)) (hown : IMap P k w b n sz f) (i : Int) (hx : a.eval x = .int .i64 i) (hi : (Lit.int .i64 i).wf = true) (hf : f i = none)
    (hK : wpList P ops Q rest (a.put o.dst z) w) : wpList P ops Q (o :: rest) a w := by
  obtain ⟨D, ho, htd, hs, hD⟩ := hown
  obtain ⟨u, ps, hrun, hu⟩ := ho.lookup (int_keyed hk) ht hz (zd := .held z) (zp := []) rfl (keyOf_int_mk hk hi)
  have hh : has D (.int .i64 i) = false := by rw [(hD i).1, hf]; rfl
  rw [atKey_of_not_has hh] at hu
  cases hu
  unfold wpList
  rw [if_pos hw]
  left
  unfold Oper.wp
  simp [execOp, hop, hm, hx, hrun, Result.andThen]
  exact hK
end

def gotF (l : List Int) : Int → Option Value := fun x => if x ∈ l then some (.bool true) else none

theorem gotF_snoc (l : List Int) (x : Int) : (fun j => if j = x then some (.bool true) else gotF l j) = gotF (l ++ [x]) := by
  funext j
  unfold gotF
  by_cases e : j = x
  · subst e; simp
  · by_cases h : j ∈ l <;> simp [e, h]
end Go.Proofs.Ytbhhbddmokddeaa
