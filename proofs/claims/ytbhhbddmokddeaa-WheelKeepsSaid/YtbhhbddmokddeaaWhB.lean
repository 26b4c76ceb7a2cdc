/-
  New.
-/
import Derived.Test.YtbhhbddmokddeaaWhA
namespace Go.Proofs.Ytbhhbddmokddeaa
open Go.RowKit Go.Maps

/-- 'make([]T, n)', of elements of one cell. -/
theorem wpList_mk {P : Program} {w : World} {ops : Array Oper} {rest : List Oper} {o : Oper} {a : Act} {Q : Exit → Act → World → Prop} (hg : o.guard = none) (l c : Operand) (t : TypeId) (ho : o.op = Op.makeSlice t l c)
    (e : TypeId) {z : Value} {bytes : Nat} (ht : P.underlying t = some (.slice e)) (hi : (P.info? e).map (fun i => (i.zero, i.size, i.bytes)) = some (some z, 1, bytes)) (hz : z.cells = #[z])
    (L : Int) (n : Nat) (hl : a.eval l = .int .i64 L) (hc : a.eval c = .int .i64 L) (hL : L = (n : Int)) (hb : bytes * n ≤ 281474976710656) (hn : n ≤ maxLen)
    (h : ∀ w', w'.ownsRow w.heap.size e 1 (.slice (some ⟨w.heap.size, 0, none⟩) n n) n (List.replicate n z) → Below w.heap.size w w' → wpList P ops Q rest (a.put o.dst (.slice (some ⟨w.heap.size, 0, none⟩) n n)) w') : wpList P ops Q (o :: rest) a w := by
  obtain ⟨i, hi', hz', hsz, hby⟩ := info_parts hi
  refine wpList_make_full w hg l c t ho w.heap.size e i z 1 ht hi' hz' hsz .i64 .i64 L L n hl hc hL hL (by rw [hby]; exact hb) hn (Nat.le_refl _) fun w' h1 h2 => ?_
  rw [hz, Nat.mul_one, toList_madeCells_one] at h1
  exact h w' h1 (Only.below (F := fun _ => False) ((Only.refl _ w).grown h2 (fun k hk => by cases hk)) (fun _ hi => hi.elim) (Nat.le_refl _))


/-- The cells of a Wheel that is nothing. -/
def zw : Array Value := (List.replicate 128 (Value.pointer none) ++ [Value.map none, Value.slice none 0 0]).toArray

theorem zw_size : zw.size = 130 := by kernel_rfl
theorem zw_run (w : World) : (zeroValue 56).run Try.prog w = .ok (.agg zw) w := by kernel_rfl
theorem zw_at {i : Nat} (h : i < 128) : zw[i]? = some (.pointer none) := by
  unfold zw
  rw [List.getElem?_toArray, List.getElem?_append_left (by rw [List.length_replicate]; exact h), List.getElem?_replicate, if_pos h]

set_option maxRecDepth 100000 in
theorem new_any {w : World} (Q : Ending → World → Prop)
    (hQ : ∀ w' S M K, Whl w' S M K 0 (fun _ => []) 0 → Below w.heap.size w w' → (∀ k, Foot S M K (fun _ => []) k → w.heap.size ≤ k) → Q (.returned (ptr S)) w') :
    Calls Try.prog 8 #[] w Q := by
  have hmm := @run_makeMap Try.prog
  have HQ := Lib.hid hQ
  have hz := zw_run
  have hzs := zw_size
  clear hQ
  go_enter Try.func8, Try.ntmps8
  go_wp2_with (at_make; refine wpList_mk rfl _ _ 50 rfl 34 Try.underlying50 infoWord rfl _ 1 rfl rfl rfl (by omega) (by unfold maxLen; omega) ?_; intro w1 ho1 hb1; have HO1 := Lib.hid ho1; have HB1 := Lib.hid hb1; clear ho1 hb1)
  have e0 : (w.alloc (.map #[] 0)).heap.size = w.heap.size + 1 := by simp
  have ho1 := HO1.out
  have hb1 := HB1.out
  rw [e0] at ho1 hb1
  obtain ⟨g, eg, hg, hrow⟩ := rowIs_of_own ho1 (by decide)
  obtain rfl : w.heap.size + 1 = g := by simpa using eg
  have hz1 := hb1.size
  rw [e0] at hz1
  have hb := Blk.new w1 56 ((zw.setIfInBounds 128 (Value.map (some w.heap.size))).setIfInBounds 129 (Value.slice (some { block := w.heap.size + 1, off := 0 }) 1 1))
  have hm := ((IMap.made Try.prog 3 w).only (F := fun _ => False) (Only.ofBelow (by rw [e0]; exact hb1)) id).alloc (.cells ((zw.setIfInBounds 128 (Value.map (some w.heap.size))).setIfInBounds 129 (Value.slice (some { block := w.heap.size + 1, off := 0 }) 1 1)) 56)
  have hat : ∀ i, i < 128 → ((zw.setIfInBounds 128 (Value.map (some w.heap.size))).setIfInBounds 129 (Value.slice (some { block := w.heap.size + 1, off := 0 }) 1 1))[i]? = some (.pointer none) := by
    intro i hi
    rw [Array.getElem?_setIfInBounds_ne (by omega), Array.getElem?_setIfInBounds_ne (by omega)]
    exact zw_at hi
  refine HQ.out _ w1.heap.size w.heap.size (w.heap.size + 1) ⟨fun s hs => (hb.cell _).trans (hat _ (by omega)), fun s hs => (hb.cell _).trans (hat _ (by omega)), (hb.cell _).trans ?_, ⟨1, (hb.cell _).trans ?_⟩, ⟨_, hm, fun s _ p hp => absurd hp List.not_mem_nil, fun _ _ => rfl⟩, fun _ _ => trivial, fun s _ p hp => absurd hp List.not_mem_nil, ⟨_, hb⟩, ?_, by decide, ⟨fun _ _ _ _ p hp => absurd hp List.not_mem_nil, fun _ _ _ _ p hp => absurd hp List.not_mem_nil, fun _ _ => List.nodup_nil⟩, fun s _ p hp => absurd hp List.not_mem_nil⟩ ?_ ?_
  · rw [Array.getElem?_setIfInBounds_ne (by omega), Array.getElem?_setIfInBounds_self_of_lt (by rw [hzs]; omega)]
  · rw [Array.getElem?_setIfInBounds_self_of_lt (by rw [Array.size_setIfInBounds, hzs]; omega)]
  · exact RowIs.only hrow ((Only.refl (fun _ => False) w1).alloc _) id
  · exact (((Below.refl _ w).alloc (Nat.le_refl _) _).trans (hb1.mono (by omega))).alloc (by omega) _
  · rintro k (rfl | rfl | rfl | ⟨s, hs, p, hp, rfl⟩)
    · omega
    · omega
    · omega
    · cases hp
end Go.Proofs.Ytbhhbddmokddeaa
