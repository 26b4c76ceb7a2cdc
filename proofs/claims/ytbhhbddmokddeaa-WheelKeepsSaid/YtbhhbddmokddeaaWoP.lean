/-
  One more element behind an owned row, and where it then lies.
-/
import Derived.Test.YtbhhbddmokddeaaWoM
import Derived.Test.YtbhhbddmokddeaaWsB
import Derived.Maps.AppendAt
import Derived.Deep.RegionWith
namespace Go.Proofs.Ytbhhbddmokddeaa
open Go.RowKit Go.Maps

/-- 'append(xs, x)' onto an owned row of one-cell elements. -/
theorem wpList_push {P : Program} {w : World} {ops : Array Oper} {rest : List Oper} {o : Oper} {a : Act} {Q : Exit → Act → World → Prop} (hgd : o.guard = none) (s x : Operand) (t : TypeId)
    (ho : o.op = .call { callee := .builtin .append, args := #[s, x], argTypes := #[t, t] })
    (base : Nat) (e : TypeId) {z : Value} {bytes : Nat} (ht : P.underlying t = some (.slice e)) (hi : (P.info? e).map (fun i => (i.zero, i.size, i.bytes)) = some (some z, 1, bytes)) (hzs : z.cells.size = 1)
    (v : Value) (n : Nat) (us : List Value) (hs : a.eval s = v) (hown : w.ownsRow base e 1 v n us) (g c : Nat) (u : Value) (hx : a.eval x = .slice (some ⟨g, 0, none⟩) 1 c) (hu : w.cell? ⟨g, 0, none⟩ = some u) (h1 : u.oneCell' = true)
    (h63 : n + 1 ≤ maxLen) (hbytes : (n + 1) * bytes ≤ 140737488355328) (hbase : base ≤ w.heap.size)
    (h : ∀ A' c' w', w'.ownsRow base e 1 (.slice A' (n + 1) c') (n + 1) (us ++ [u]) → w.grownBy w' v.ownBlock → (∀ b o, A' = some ⟨b, o, none⟩ → v.ownBlock = some b ∨ b = w.heap.size) → wpList P ops Q rest (a.put o.dst (.slice A' (n + 1) c')) w') : wpList P ops Q (o :: rest) a w := by
  obtain ⟨i, hi', hz, hsz, hby⟩ := info_parts hi
  refine wpList_append_own_at w hgd s x t ho base e i z 1 bytes ht hi' hz hsz hby hzs (by omega) v n us hs hown ⟨g, 0, none⟩ 1 c [u] hx rfl ?_ (by simpa using h1) h63 hbytes hbase fun v' w' ho' hg' _ hat => ?_
  · intro j y hj
    match j, hj with
    | 0, hj =>
      simp only [List.getElem?_cons_zero, Option.some.injEq] at hj
      subst hj
      rw [Addr.add_lit]
      exact hu
  · obtain ⟨A', c', rfl, _⟩ := vals_of_own ho'
    refine h A' c' w' ho' hg' fun b o' e => ?_
    subst e
    rcases hat with hat | hat
    · exact .inl hat.symm
    · exact .inr (by simpa [Value.ownBlock] using hat)

/-- Rows of one's own, for reading. -/
theorem own_ints {w : World} {base n c : Nat} {A : Option Addr} {xs : List Int} (h : w.ownsRow base 3 1 (.slice A n c) n (ivals xs)) : IsInts w A n xs := by
  obtain ⟨_, _, e, hv1, _⟩ := vals_of_own h
  obtain ⟨rfl, rfl⟩ : A = _ ∧ c = _ := by simpa using e
  exact hv1
end Go.Proofs.Ytbhhbddmokddeaa
