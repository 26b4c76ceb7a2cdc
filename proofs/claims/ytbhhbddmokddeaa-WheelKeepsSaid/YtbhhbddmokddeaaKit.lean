/-
  Plain words for memory that the proofs of this seat share: frames by a set of blocks, blocks known whole, maps keyed by int with any values.
-/
import Derived.WalkKit
import Derived.Maps.OwnSet
import Derived.Laws.Rows
import Derived.Deep.Draws
import Derived.Lib.Hide
import Derived.LaidEqlPtr
namespace Go.Proofs.Ytbhhbddmokddeaa
open Go.RowKit Go.Maps

/-! ### frames -/

/-- Only blocks of F, and new ones, may have turned. -/
structure Only (F : Nat → Prop) (w w' : World) : Prop where
  os : w'.os = w.os
  tape : w'.tape = w.tape
  output : w'.output = w.output
  size : w.heap.size ≤ w'.heap.size
  block : ∀ k, k < w.heap.size → ¬ F k → w'.heap[k]? = w.heap[k]?

section
variable {F G : Nat → Prop} {a b c w w' : World}

theorem Only.refl (F : Nat → Prop) (w : World) : Only F w w := ⟨rfl, rfl, rfl, Nat.le_refl _, fun _ _ _ => rfl⟩

theorem Only.trans (h : Only F a b) (k : Only G b c) (hg : ∀ i, G i → F i ∨ a.heap.size ≤ i) : Only F a c :=
  ⟨k.os.trans h.os, k.tape.trans h.tape, k.output.trans h.output, Nat.le_trans h.size k.size, fun i hi hn =>
    (k.block i (Nat.lt_of_lt_of_le hi h.size) (fun hgi => (hg i hgi).elim hn (fun hh => by omega))).trans (h.block i hi hn)⟩

theorem Only.trans' (h : Only F a b) (k : Only F b c) : Only F a c := h.trans k fun _ hi => .inl hi

theorem Only.mono (h : Only F a b) (hg : ∀ i, F i → G i) : Only G a b := ⟨h.os, h.tape, h.output, h.size, fun i hi hn => h.block i hi fun hf => hn (hg i hf)⟩

theorem Only.drew (h : Only F a b) : Only F a b.drew := ⟨h.os, h.tape, h.output, h.size, h.block⟩

theorem Only.drewN (h : Only F a b) (n : Nat) : Only F a (b.drewN n) := ⟨h.os, h.tape, h.output, h.size, h.block⟩

theorem Only.alloc (h : Only F a b) (o : Obj) : Only F a (b.alloc o) :=
  ⟨h.os, h.tape, h.output, by simpa using Nat.le_succ_of_le h.size, fun i hi hn => (Below.heap_alloc b o i (Nat.lt_of_lt_of_le hi h.size)).trans (h.block i hi hn)⟩

theorem Only.setCell (h : Only F a b) {p : Addr} (hp : F p.block ∨ a.heap.size ≤ p.block) (u : Value) : Only F a (b.setCell p u) :=
  ⟨h.os, h.tape, h.output, by simpa [World.setCell] using h.size, fun i hi hn => (Below.heap_setCell b p u i (fun e => by
    subst e; exact hp.elim hn (fun hh => by omega))).trans (h.block i hi hn)⟩

theorem Only.grown {row : Option Nat} (h : Only F a b) (hg : b.grownBy c row) (hr : ∀ k, row = some k → F k ∨ a.heap.size ≤ k) : Only F a c :=
  ⟨hg.os.trans h.os, hg.tape.trans h.tape, hg.output.trans h.output, Nat.le_trans h.size hg.size, fun i hi hn =>
    (hg.block i (Nat.lt_of_lt_of_le hi h.size) (fun e => (hr i e.symm).elim hn (fun hh => by omega))).trans (h.block i hi hn)⟩

theorem Only.turned {m : Nat} (h : Only F a b) (hg : b.mapTurned c m) (hr : F m ∨ a.heap.size ≤ m) : Only F a c :=
  h.grown hg.grown fun k hk => by cases hk; exact hr

theorem Only.below {B : Nat} (h : Only F a b) (hF : ∀ i, F i → B ≤ i) (hB : B ≤ a.heap.size) : Below B a b :=
  ⟨h.os, h.tape, h.output, h.size, fun i hi => h.block i (by omega) fun hf => by have := hF i hf; omega⟩

theorem Only.ofBelow (h : Below a.heap.size a b) : Only F a b := ⟨h.os, h.tape, h.output, h.size, fun i hi _ => h.block i hi⟩

theorem Only.cell (h : Only F a b) {p : Addr} (hp : p.block < a.heap.size) (hn : ¬ F p.block) : b.cell? p = a.cell? p := World.cell?_of_block (h.block _ hp hn)

theorem Only.frozen (h : Only F a b) {p : Addr} (hp : p.block < a.heap.size) (hn : ¬ F p.block) : b.frozen? p = a.frozen? p := World.frozen?_of_block (h.block _ hp hn)

theorem Only.own {base : Nat} {e : TypeId} {size : Nat} {v : Value} {n : Nat} {xs : List Value} (h : Only F a b) (ho : a.ownsRow base e size v n xs) (hn : ∀ k, v.ownBlock = some k → ¬ F k) : b.ownsRow base e size v n xs := by
  refine ⟨ho.1, ?_⟩
  rcases ho.2 with hz | ⟨g, cap, cur, rfl, hb, hgg, rest⟩
  · exact .inl hz
  · refine .inr ⟨g, cap, cur, rfl, hb, ?_, rest⟩
    rw [h.block g (Array.getElem?_eq_some_iff.1 hgg).1 (hn g rfl)]
    exact hgg

theorem Only.map {P : Program} {k : TypeId} {R : Value → Option (DataW Value × List MemPlace)} {m n : Nat} {D : DataW Value} (h : Only F a b) (ho : a.ownsMap P k R m n D) (hn : ¬ F m) : b.ownsMap P k R m n D := by
  have hlt := ho.lt
  obtain ⟨es, clock, hb, rest⟩ := ho
  exact ⟨es, clock, (h.block m hlt hn).trans hb, rest⟩
end

theorem turned_cell {w w' : World} {m : Nat} (h : w.mapTurned w' m) (p : Addr) : w'.cell? p = w.cell? p := by
  obtain ⟨es, clock, es', clock', hb, rfl⟩ := h
  by_cases hp : p.block = m
  · have e1 : (ChangeMaps.setBlock w m (.map es' clock')).heap[p.block]? = some (.map es' clock') := by rw [hp]; exact ChangeMaps.heap_setBlock_same hb _
    have e2 : w.heap[p.block]? = some (.map es clock) := by rw [hp]; exact hb
    simp [World.cell?, e1, e2]
  · exact World.cell?_of_block (ChangeMaps.heap_setBlock_other hb _ hp)

theorem turned_size {w w' : World} {m : Nat} (h : w.mapTurned w' m) : w'.heap.size = w.heap.size := by
  obtain ⟨es, clock, es', clock', hb, rfl⟩ := h
  simp [ChangeMaps.setBlock]

/-! ### blocks known whole -/

def Blk (w : World) (g : Nat) (t : TypeId) (cs : Array Value) : Prop := w.heap[g]? = some (.cells cs t (0, 0))

section
variable {w w' : World} {g : Nat} {t : TypeId} {cs : Array Value}
theorem Blk.lt (h : Blk w g t cs) : g < w.heap.size := by
  rcases Nat.lt_or_ge g w.heap.size with hlt | hge
  · exact hlt
  · unfold Blk at h; rw [Array.getElem?_eq_none hge] at h; cases h
theorem Blk.cell (h : Blk w g t cs) (i : Nat) : w.cell? ⟨g, i, none⟩ = cs[i]? := cell_of_row w g i cs t (0, 0) h
theorem Blk.frozen (h : Blk w g t cs) (i : Nat) : w.frozen? ⟨g, i, none⟩ = false := by
  unfold Blk at h
  simp [World.frozen?, h]
theorem Blk.new (w : World) (t : TypeId) (cs : Array Value) : Blk (w.alloc (.cells cs t)) w.heap.size t cs := heap_alloc_new w _
theorem Blk.drew (h : Blk w g t cs) : Blk w.drew g t cs := h
theorem Blk.drewN (h : Blk w g t cs) (n : Nat) : Blk (w.drewN n) g t cs := h
theorem Blk.alloc (h : Blk w g t cs) (o : Obj) : Blk (w.alloc o) g t cs := (Below.heap_alloc w o g h.lt).trans h
theorem Blk.set_ (h : Blk w g t cs) (i : Nat) (u : Value) : Blk (w.setCell ⟨g, i, none⟩ u) g t (cs.setIfInBounds i u) := by
  unfold Blk at h ⊢
  simp [World.setCell, Array.getElem?_modify, h]
theorem Blk.far (h : Blk w g t cs) {p : Addr} (hp : g ≠ p.block) (u : Value) : Blk (w.setCell p u) g t cs := (Below.heap_setCell w p u g hp).trans h
theorem Blk.below {B : Nat} (h : Blk w g t cs) (hb : Below B w w') (hg : g < B) : Blk w' g t cs := (hb.block g hg).trans h
theorem Blk.only {F : Nat → Prop} (h : Blk w g t cs) (hb : Only F w w') (hg : ¬ F g) : Blk w' g t cs := (hb.block g h.lt hg).trans h
theorem Blk.grown {row : Option Nat} (h : Blk w g t cs) (hb : w.grownBy w' row) (hg : some g ≠ row) : Blk w' g t cs := (hb.block g h.lt hg).trans h
theorem Blk.eq_ {t' : TypeId} {cs' : Array Value} (h : Blk w g t cs) (h' : Blk w g t' cs') : t = t' ∧ cs = cs' := by
  unfold Blk at h h'
  rw [h] at h'
  injection h' with h'
  injection h' with hc ht
  exact ⟨ht, hc⟩
theorem Blk.ne_ {g' : Nat} {t' : TypeId} {cs' : Array Value} (h : Blk w g t cs) (h' : Blk w g' t' cs') (hne : t ≠ t') : g ≠ g' := by
  rintro rfl
  exact hne (h.eq_ h').1
theorem Blk.ne_map {P : Program} {k : TypeId} {R : Value → Option (DataW Value × List MemPlace)} {m n : Nat} {D : DataW Value} (h : Blk w g t cs) (ho : w.ownsMap P k R m n D) : g ≠ m := by
  rintro rfl
  obtain ⟨es, clock, hb, _⟩ := ho
  unfold Blk at h
  rw [h] at hb
  cases hb
end

/-- Block g is a row of cells of type t, whatever they hold, none frozen. -/
def HasBlk (w : World) (g : Nat) (t : TypeId) : Prop := ∃ cs, Blk w g t cs

section
variable {w w' : World} {g : Nat} {t : TypeId}
theorem HasBlk.lt (h : HasBlk w g t) : g < w.heap.size := by obtain ⟨cs, h⟩ := h; exact h.lt
theorem HasBlk.frozen (h : HasBlk w g t) (i : Nat) : w.frozen? ⟨g, i, none⟩ = false := by obtain ⟨cs, h⟩ := h; exact h.frozen i
theorem HasBlk.alloc (h : HasBlk w g t) (o : Obj) : HasBlk (w.alloc o) g t := by obtain ⟨cs, h⟩ := h; exact ⟨cs, h.alloc o⟩
theorem HasBlk.drew (h : HasBlk w g t) : HasBlk w.drew g t := h
theorem HasBlk.drewN (h : HasBlk w g t) (n : Nat) : HasBlk (w.drewN n) g t := h
theorem HasBlk.setCell (h : HasBlk w g t) (p : Addr) (u : Value) : HasBlk (w.setCell p u) g t := by
  obtain ⟨cs, h⟩ := h
  by_cases hp : g = p.block
  · unfold HasBlk Blk at *
    simp [World.setCell, Array.getElem?_modify, h, ← hp]
  · exact ⟨cs, h.far hp u⟩
theorem HasBlk.only {F : Nat → Prop} (h : HasBlk w g t) (hb : Only F w w') (hg : ¬ F g) : HasBlk w' g t := by obtain ⟨cs, h⟩ := h; exact ⟨cs, h.only hb hg⟩
theorem HasBlk.turned {m : Nat} (h : HasBlk w g t) (hb : w.mapTurned w' m) : HasBlk w' g t := by
  obtain ⟨cs, h⟩ := h
  refine ⟨cs, h.grown hb.grown ?_⟩
  rintro e
  cases e
  obtain ⟨es, clock, es', clock', hb, rfl⟩ := hb
  unfold Blk at h
  rw [h] at hb
  cases hb
end

/-! ### pointers to whole blocks, compared -/

abbrev ptr (b : Nat) : Value := .pointer (some ⟨b, 0, none⟩)

theorem ptr_inj {a b : Nat} (h : ptr a = ptr b) : a = b := by simpa [ptr] using h

theorem run_ptr_eql {P : Program} (w : World) {tp te : TypeId} (hp : P.underlying tp = some (.pointer te)) {j : TypeInfo} (hte : P.info? te = some j) (hsz : j.size ≠ 0) {a b : Nat} {ta tb : TypeId} {ca cb : Array Value}
    (ha : Blk w a ta ca) (hb : Blk w b tb cb) : (binOp .eql tp (ptr a) (ptr b)).run P w = .ok (.bool (a == b)) w := by
  by_cases h : a = b
  · subst h
    rw [run_eql_ptr_same w _ hp hte]
    simp
  · rw [run_eql_ptr_other (a := ⟨a, 0, none⟩) (b := ⟨b, 0, none⟩) w hp hte hsz (by simp) ha hb]
    simp [h]

theorem run_ptr_neq {P : Program} (w : World) {tp te : TypeId} (hp : P.underlying tp = some (.pointer te)) {j : TypeInfo} (hte : P.info? te = some j) (hsz : j.size ≠ 0) {a b : Nat} {ta tb : TypeId} {ca cb : Array Value}
    (ha : Blk w a ta ca) (hb : Blk w b tb cb) : (binOp .neq tp (ptr a) (ptr b)).run P w = .ok (.bool (a != b)) w := by
  have h := run_ptr_eql w hp hte hsz ha hb
  simp only [binOp] at h ⊢
  cases hr : (Op.equal tp (ptr a) (ptr b)).run P w with
  | ok v u =>
    simp [hr] at h ⊢
    obtain ⟨h1, h2⟩ := h
    simp [bne, h1, h2]
  | halt x u => simp [hr] at h

/-! ### maps keyed by int, with any values -/

/-- How a value reads, as itself. -/
def asIs (v : Value) : Option (DataW Value × List MemPlace) := some (.held v, [])

/-- Block b is a map keyed by int (type k) of sz entries, at most n, that holds f. -/
def IMap (P : Program) (k : TypeId) (w : World) (b n sz : Nat) (f : Int → Option Value) : Prop :=
  ∃ D : DataW Value, w.ownsMap P k asIs b n D ∧ Tidy D ∧ Maps.size D = sz ∧
    ∀ i : Int, has D (.int .i64 i) = (f i).isSome ∧ ∀ v, f i = some v → ∀ z, D.atKey (.int .i64 i) z = .held v

theorem isKeyInt (i : Int) : WideAt.IsKeyLit (.int .i64 i) := trivial

section
variable {P : Program} {k : TypeId} {w w' : World} {b n sz : Nat} {f : Int → Option Value}

theorem IMap.made (P : Program) (k : TypeId) (w : World) : IMap P k (w.alloc (.map #[] 0)) w.heap.size 0 0 (fun _ => none) :=
  ⟨.map [], World.ownsMap_made _ _ _ _, tidy_empty, rfl, fun i => ⟨rfl, fun v h => by cases h⟩⟩

theorem IMap.lt (h : IMap P k w b n sz f) : b < w.heap.size := by
  obtain ⟨D, ho, _⟩ := h
  exact ho.lt

theorem IMap.size_le (h : IMap P k w b n sz f) : sz ≤ n := by
  obtain ⟨D, ho, _, rfl, _⟩ := h
  exact ho.size_le

theorem IMap.only {F : Nat → Prop} (h : IMap P k w b n sz f) (hb : Only F w w') (hg : ¬ F b) : IMap P k w' b n sz f := by
  obtain ⟨D, ho, r⟩ := h
  exact ⟨D, hb.map ho hg, r⟩

theorem IMap.alloc (h : IMap P k w b n sz f) (o : Obj) : IMap P k (w.alloc o) b n sz f := h.only ((Only.refl (fun _ => False) w).alloc o) id

theorem IMap.setCell (h : IMap P k w b n sz f) {p : Addr} (hp : b ≠ p.block) (u : Value) : IMap P k (w.setCell p u) b n sz f :=
  h.only (F := fun i => i = p.block) ((Only.refl (fun i => i = p.block) w).setCell (p := p) (.inl rfl) u) hp

theorem IMap.ne_blk (h : IMap P k w b n sz f) {g : Nat} {t : TypeId} {cs : Array Value} (hb : Blk w g t cs) : g ≠ b := by
  obtain ⟨D, ho, _⟩ := h
  exact hb.ne_map ho

theorem IMap.drew (h : IMap P k w b n sz f) : IMap P k w.drew b n sz f := h
theorem IMap.drewN (h : IMap P k w b n sz f) (m : Nat) : IMap P k (w.drewN m) b n sz f := h

/-- 'm[k] = v' -/
theorem IMap.put {i : Int} {v : Value} {D : DataW Value} (ho : w'.ownsMap P k asIs b (n + 1) (D.put (.int .i64 i) (.held v))) (ht : Tidy D) (hs : Maps.size D = sz)
    (hf : ∀ i : Int, has D (.int .i64 i) = (f i).isSome ∧ ∀ v, f i = some v → ∀ z, D.atKey (.int .i64 i) z = .held v) :
    IMap P k w' b (n + 1) (if (f i).isSome then sz else sz + 1) (fun j => if j = i then some v else f j) := by
  refine ⟨_, ho, ht.put (isKeyInt i) _, ?_, fun j => ?_⟩
  · rw [size_put ht, (hf i).1, hs]
  · by_cases hj : j = i
    · subst hj
      simp only [if_true]
      refine ⟨has_put_same ht.isMap (isKeyInt j) _, fun u hu z => ?_⟩
      cases hu
      exact atKey_put_same ht.isMap (isKeyInt j) _ z
    · have hne : (Lit.int .i64 j) ≠ (.int .i64 i) := by simpa using hj
      simp only [if_neg hj]
      rw [has_put_other hne]
      refine ⟨(hf j).1, fun u hu z => ?_⟩
      rw [atKey_put_other hne]
      exact (hf j).2 u hu z

/-- 'delete(m, k)' -/
theorem IMap.del {i : Int} {D : DataW Value} (ho : w'.ownsMap P k asIs b n (D.del (.int .i64 i))) (ht : Tidy D) (hs : Maps.size D = sz)
    (hf : ∀ i : Int, has D (.int .i64 i) = (f i).isSome ∧ ∀ v, f i = some v → ∀ z, D.atKey (.int .i64 i) z = .held v) :
    IMap P k w' b n (if (f i).isSome then sz - 1 else sz) (fun j => if j = i then none else f j) := by
  refine ⟨_, ho, ht.del _, ?_, fun j => ?_⟩
  · have := size_del ht (k := .int .i64 i)
    rw [(hf i).1, hs] at this
    split at this <;> rename_i h1
    · rw [if_pos h1]; omega
    · rw [if_neg h1]; omega
  · by_cases hj : j = i
    · subst hj
      simp only [if_true]
      exact ⟨has_del_same, fun u hu => by cases hu⟩
    · have hne : (Lit.int .i64 j) ≠ (.int .i64 i) := by simpa using hj
      simp only [if_neg hj]
      rw [has_del_other hne]
      refine ⟨(hf j).1, fun u hu z => ?_⟩
      rw [atKey_del_other hne]
      exact (hf j).2 u hu z
end

section
variable {P : Program} (w : World) {ops : Array Oper} {rest : List Oper} {o : Oper} {a : Act} {Q : Exit → Act → World → Prop}

theorem wpList_look_hit (hg : o.guard = none) (m x : Operand) (t : TypeId) (hop : o.op = Op.lookup t m x true)
    (k e : TypeId) (hk : P.underlying k = some (.int .i64)) (ht : P.underlying t = some (.map k e)) {z : Value} (hz : (zeroValue e).run P w = .ok z w) (b n sz : Nat) (f : Int → Option Value)
    (hm : a.eval m = .map (some b)) (hown : IMap P k w b n sz f) (i : Int) (hx : a.eval x = .int .i64 i) (hi : (Lit.int .i64 i).wf = true) (v : Value) (hf : f i = some v)
    (hK : wpList P ops Q rest (a.put o.dst (.tuple #[v, .bool true])) w) : wpList P ops Q (o :: rest) a w := by
  obtain ⟨D, ho, htd, hs, hD⟩ := hown
  refine wpList_lookup_own_ok w hg m x t hop k e (int_keyed hk) ht asIs hz (.held z) [] rfl b n D hm ho _ _ hx (keyOf_int_mk hk hi) fun u ps hu => ?_
  rw [(hD i).2 v hf] at hu
  cases hu
  rw [(hD i).1, hf]
  exact hK

theorem wpList_look_miss (hg : o.guard = none) (m x : Operand) (t : TypeId) (hop : o.op = Op.lookup t m x true)
    (k e : TypeId) (hk : P.underlying k = some (.int .i64)) (ht : P.underlying t = some (.map k e)) {z : Value} (hz : (zeroValue e).run P w = .ok z w) (b n sz : Nat) (f : Int → Option Value)
    (hm : a.eval m = .map (some b)) (hown : IMap P k w b n sz f) (i : Int) (hx : a.eval x = .int .i64 i) (hi : (Lit.int .i64 i).wf = true) (hf : f i = none)
    (hK : wpList P ops Q rest (a.put o.dst (.tuple #[z, .bool false])) w) : wpList P ops Q (o :: rest) a w := by
  obtain ⟨D, ho, htd, hs, hD⟩ := hown
  refine wpList_lookup_own_ok w hg m x t hop k e (int_keyed hk) ht asIs hz (.held z) [] rfl b n D hm ho _ _ hx (keyOf_int_mk hk hi) fun u ps hu => ?_
  have hh : has D (.int .i64 i) = false := by rw [(hD i).1, hf]; rfl
  rw [atKey_of_not_has hh] at hu
  cases hu
  rw [hh]
  exact hK

/-- 'm[k]' (without 'ok'), k there; the operation guarded or not. -/
theorem wpList_look1 (hw : Region.wanted o (yielded ops a.tmps) = true) (m x : Operand) (t : TypeId) (hop : o.op = Op.lookup t m x false)
    (k e : TypeId) (hk : P.underlying k = some (.int .i64)) (ht : P.underlying t = some (.map k e)) {z : Value} (hz : (zeroValue e).run P w = .ok z w) (b n sz : Nat) (f : Int → Option Value)
    (hm : a.eval m = .map (some b)) (hown : IMap P k w b n sz f) (i : Int) (hx : a.eval x = .int .i64 i) (hi : (Lit.int .i64 i).wf = true) (v : Value) (hf : f i = some v)
    (hK : wpList P ops Q rest (a.put o.dst v) w) : wpList P ops Q (o :: rest) a w := by
  obtain ⟨D, ho, htd, hs, hD⟩ := hown
  obtain ⟨u, ps, hrun, hu⟩ := ho.lookup (int_keyed hk) ht hz (zd := .held z) (zp := []) rfl (keyOf_int_mk hk hi)
  rw [(hD i).2 v hf] at hu
  cases hu
  unfold wpList
  rw [if_pos hw]
  left
  unfold Oper.wp
  simp [execOp, hop, hm, hx, hrun, Result.andThen]
  exact hK

theorem wpList_put (hg : o.guard = none) (m x v : Operand) (t : TypeId) (hop : o.op = Op.mapUpdate t m x v)
    (k e : TypeId) (hk : P.underlying k = some (.int .i64)) (ht : P.underlying t = some (.map k e)) (b n sz : Nat) (f : Int → Option Value)
    (hm : a.eval m = .map (some b)) (hown : IMap P k w b n sz f) (hn : n < maxLen) (i : Int) (u : Value) (hx : a.eval x = .int .i64 i) (hv : a.eval v = u) (hi : (Lit.int .i64 i).wf = true)
    (hK : ∀ w', IMap P k w' b (n + 1) (if (f i).isSome then sz else sz + 1) (fun j => if j = i then some u else f j) → w.mapTurned w' b → wpList P ops Q rest (a.put o.dst undef) w') :
    wpList P ops Q (o :: rest) a w := by
  obtain ⟨D, ho, htd, hs, hD⟩ := hown
  exact wpList_mapUpdate_in w hg m x v t hop k e (int_keyed hk) ht asIs b n D hm ho hn _ u _ hx hv (keyOf_int_mk hk hi) (.held u) [] rfl fun w' ho' ht' => hK w' (IMap.put ho' htd hs hD) ht'

theorem wpList_del (hg : o.guard = none) (m x : Operand) (t k : TypeId) (hop : o.op = Op.call { callee := Callee.builtin Builtin.delete, args := #[m, x], argTypes := #[t, k] })
    (e : TypeId) (hk : P.underlying k = some (.int .i64)) (ht : P.underlying t = some (.map k e)) (b n sz : Nat) (f : Int → Option Value)
    (hm : a.eval m = .map (some b)) (hown : IMap P k w b n sz f) (i : Int) (hx : a.eval x = .int .i64 i) (hi : (Lit.int .i64 i).wf = true)
    (hK : ∀ w', IMap P k w' b n (if (f i).isSome then sz - 1 else sz) (fun j => if j = i then none else f j) → w.mapTurned w' b → wpList P ops Q rest (a.put o.dst (.tuple #[])) w') :
    wpList P ops Q (o :: rest) a w := by
  obtain ⟨D, ho, htd, hs, hD⟩ := hown
  exact wpList_delete_own w hg m x t k hop e (int_keyed hk) ht asIs b n D hm ho _ _ hx (keyOf_int_mk hk hi) fun w' ho' ht' => hK w' (IMap.del ho' htd hs hD) ht'

theorem wpList_maplen (hg : o.guard = none) (m : Operand) (t : TypeId) (hop : o.op = Op.call { callee := Callee.builtin Builtin.len, args := #[m], argTypes := #[t] })
    (k e : TypeId) (ht : P.underlying t = some (.map k e)) (b n sz : Nat) (f : Int → Option Value) (hm : a.eval m = .map (some b)) (hown : IMap P k w b n sz f)
    (hK : wpList P ops Q rest (a.put o.dst (.int .i64 (sz : Int))) w) : wpList P ops Q (o :: rest) a w := by
  obtain ⟨D, ho, htd, rfl, hD⟩ := hown
  exact wpList_len_own w hg m t hop k e ht asIs b n D hm ho hK
end


/-! ### slices of one-cell elements, as lists of values -/

/-- A slice's cells read as the values us. -/
def IsVals (w : World) (A : Option Addr) (n : Nat) (us : List Value) : Prop :=
  us.length = n ∧ (0 < n → ∃ b o, A = some ⟨b, o, none⟩ ∧ b < w.heap.size ∧ ∀ j u, us[j]? = some u → w.cell? ⟨b, o + j, none⟩ = some u)

section
variable {w w' : World} {A : Option Addr} {n : Nat} {us : List Value}

theorem IsVals.nil (w : World) (A : Option Addr) : IsVals w A 0 [] := ⟨rfl, fun h => absurd h (by omega)⟩

theorem IsVals.keep (h : IsVals w A n us) (hk : ∀ p : Addr, p.block < w.heap.size → w'.cell? p = w.cell? p) (hz : w.heap.size ≤ w'.heap.size) : IsVals w' A n us :=
  ⟨h.1, fun hn => by
    obtain ⟨b, o, e, hb, hc⟩ := h.2 hn
    exact ⟨b, o, e, by omega, fun j u hj => (hk ⟨b, o + j, none⟩ hb).trans (hc j u hj)⟩⟩

theorem IsVals.drewN (h : IsVals w A n us) (m : Nat) : IsVals (w.drewN m) A n us := h
theorem IsVals.drew (h : IsVals w A n us) : IsVals w.drew A n us := h

theorem IsVals.only {F : Nat → Prop} (h : IsVals w A n us) (ho : Only F w w') (hd : ∀ b o, A = some ⟨b, o, none⟩ → ¬ F b) : IsVals w' A n us :=
  ⟨h.1, fun hn => by
    obtain ⟨b, o, e, hb, hc⟩ := h.2 hn
    exact ⟨b, o, e, Nat.lt_of_lt_of_le hb ho.size, fun j u hj => (ho.cell (p := ⟨b, o + j, none⟩) hb (hd b o e)).trans (hc j u hj)⟩⟩

theorem IsVals.below (h : IsVals w A n us) (ho : Below w.heap.size w w') : IsVals w' A n us := h.only (F := fun _ => False) (Only.ofBelow ho) fun _ _ _ => id

theorem IsVals.alloc (h : IsVals w A n us) (o : Obj) : IsVals (w.alloc o) A n us := h.below ((Below.refl _ w).alloc (Nat.le_refl _) o)

/-- The first k of them ('xs[:k]'). -/
theorem IsVals.take (h : IsVals w A n us) {k : Nat} (hk : k ≤ n) : IsVals w A k (us.take k) :=
  ⟨by rw [List.length_take, h.1]; omega, fun hn => by
    obtain ⟨b, o, e, hb, hc⟩ := h.2 (by omega)
    exact ⟨b, o, e, hb, fun j u hj => hc j u (by
      rw [List.getElem?_take] at hj
      split at hj
      · exact hj
      · cases hj)⟩⟩

/-- Those behind the first k ('xs[k:]'). -/
theorem IsVals.drop {b o : Nat} (h : IsVals w (some ⟨b, o, none⟩) n us) {k cap : Nat} (hk : k ≤ n) (hc : n ≤ cap) : IsVals w (if cap = k then some ⟨b, o, none⟩ else some ⟨b, o + k, none⟩) (n - k) (us.drop k) :=
  ⟨by rw [List.length_drop, h.1], fun hn => by
    obtain ⟨b', o', e, hb, hcell⟩ := h.2 (by omega)
    obtain ⟨rfl, rfl⟩ : b = b' ∧ o = o' := by simpa using e
    refine ⟨b, o + k, by rw [if_neg (by omega)], hb, fun j u hj => ?_⟩
    rw [List.getElem?_drop] at hj
    have := hcell (k + j) u hj
    rw [← Nat.add_assoc] at this
    exact this⟩

/-- An owned row reads so. -/
theorem vals_of_own {base : Nat} {e : TypeId} {v : Value} (h : w.ownsRow base e 1 v n us) :
    ∃ A c, v = .slice A n c ∧ IsVals w A n us ∧ n ≤ c ∧ c ≤ maxLen ∧ (A = none ∧ n = 0 ∧ c = 0 ∨ ∃ g, A = some ⟨g, 0, none⟩ ∧ base ≤ g ∧ g < w.heap.size) := by
  have hl : us.length = n := by simpa using h.1
  rcases h.2 with ⟨rfl, rfl⟩ | ⟨g, cap, cur, rfl, hb, hg, hn, hm, hs, ht⟩
  · exact ⟨none, 0, rfl, ⟨hl, fun h => absurd h (by omega)⟩, Nat.le_refl _, by unfold maxLen; omega, .inl ⟨rfl, rfl, rfl⟩⟩
  · have hlt := (Array.getElem?_eq_some_iff.1 hg).1
    refine ⟨_, cap, rfl, ⟨hl, fun _ => ⟨g, 0, rfl, hlt, fun j u hj => ?_⟩⟩, hn, hm, .inr ⟨g, rfl, hb, hlt⟩⟩
    rw [cell_of_row w g (0 + j) cur e (0, 0) hg]
    have hjn : j < n := by have := (List.getElem?_eq_some_iff.1 hj).1; omega
    rw [← ht, List.getElem?_take_of_lt (by omega)] at hj
    simpa using hj
end

section
variable {P : Program} {w : World}

theorem run_append_none (base : Nat) (t ty e : TypeId) (i : TypeInfo) (size : Nat) (ht : P.underlying t = some (.slice e)) (hi : P.info? e = some i)
    (v : Value) (n : Nat) (xs : List Value) (hown : w.ownsRow base e size v n xs) (c : Nat) : (Builtin.append_ #[t, t] ty #[v, .slice none 0 c]).run P w = .ok v w := by
  rcases hown.2 with ⟨rfl, rfl⟩ | ⟨g, cap, cur, rfl, _, _, hnc, _⟩
  · simp [Builtin.append_, run_underlying ht, sizeOf, typeInfo, hi, Builtin.lenOf, Builtin.firstCells]
  · simp [Builtin.append_, run_underlying ht, sizeOf, typeInfo, hi, Builtin.lenOf, Builtin.firstCells, hnc, storeCells]

/-- An operation that is wanted, guarded or not. -/
theorem wpList_wanted {ops : Array Oper} {rest : List Oper} {o : Oper} {a : Act} {Q : Exit → Act → World → Prop} (hw : Region.wanted o (yielded ops a.tmps) = true)
    (h : ∀ K : Act → World → Prop, (∀ a w, wpList P ops Q rest a w → K a w) → o.wp P a w K Q) : wpList P ops Q (o :: rest) a w :=
  wpList_step fun K hK => by rw [if_pos hw]; exact h K hK

/-- 'append(xs, ys...)' onto an owned row of one-cell elements, whatever slice ys is. -/
theorem wpList_app {ops : Array Oper} {rest : List Oper} {o : Oper} {a : Act} {Q : Exit → Act → World → Prop} (hgd : Region.wanted o (yielded ops a.tmps) = true) (s x : Operand) (t : TypeId)
    (ho : o.op = .call { callee := .builtin .append, args := #[s, x], argTypes := #[t, t] })
    (base : Nat) (e : TypeId) {z : Value} {bytes : Nat} (ht : P.underlying t = some (.slice e)) (hi : (P.info? e).map (fun i => (i.zero, i.size, i.bytes)) = some (some z, 1, bytes)) (hzs : z.cells.size = 1)
    (v : Value) (n : Nat) (us : List Value) (hs : a.eval s = v) (hown : w.ownsRow base e 1 v n us)
    (A : Option Addr) (m c : Nat) (news : List Value) (hx : a.eval x = .slice A m c) (hr : IsVals w A m news) (h1 : ∀ u ∈ news, u.oneCell' = true)
    (h63 : n + m ≤ maxLen) (hbytes : (n + m) * bytes ≤ 140737488355328) (hbase : base ≤ w.heap.size)
    (h : ∀ A' c' w', w'.ownsRow base e 1 (.slice A' (n + m) c') (n + m) (us ++ news) → w.grownBy w' v.ownBlock → wpList P ops Q rest (a.put o.dst (.slice A' (n + m) c')) w') : wpList P ops Q (o :: rest) a w := by
  have h' : ∀ v' w', w'.ownsRow base e 1 v' (n + m) (us ++ news) → w.grownBy w' v.ownBlock → wpList P ops Q rest (a.put o.dst v') w' := fun v' w' ho' hg' => by
    obtain ⟨A', c', rfl, _⟩ := vals_of_own ho'
    exact h A' c' w' ho' hg'
  obtain ⟨i, hi', hz, hsz, hby⟩ := info_parts hi
  rcases A with _ | ad
  · have hm : m = 0 := by
      rcases Nat.eq_zero_or_pos m with h0 | h0
      · exact h0
      · obtain ⟨b, o, he, _⟩ := hr.2 h0
        cases he
    subst hm
    have hn : news = [] := List.eq_nil_of_length_eq_zero hr.1
    subst hn
    refine wpList_wanted hgd fun K hK => ?_
    have hrun := run_append_none (P := P) (w := w) base t o.type e i 1 ht hi' v n us hown c
    unfold Oper.wp execOp
    simp only [ho, resolve, invoke, builtin, Sem.run_bind, Sem.run_pure, Result.andThen_ok, List.map_toArray, List.map_cons, List.map_nil, hs, hx, hrun]
    exact hK _ _ (h' v w (by simpa using hown) (World.grownBy.refl w _))
  · have hcells : ∀ j u, news[j]? = some u → w.cell? (ad.add j) = some u := by
      intro j u hu
      rcases Nat.eq_zero_or_pos m with h0 | h0
      · subst h0
        have hn : news = [] := List.eq_nil_of_length_eq_zero hr.1
        subst hn
        simp at hu
      · obtain ⟨b, o, he, _, hc⟩ := hr.2 h0
        obtain rfl := Option.some.inj he
        have := hc j u hu
        rw [Addr.add_lit]
        exact this
    refine wpList_wanted hgd fun K hK => ?_
    exact wp_append_own (P := P) w s x t ho base e i z 1 bytes ht hi' hz hsz hby hzs (by omega) v n us hs hown ad m c news hx (by simpa using hr.1) hcells h1 h63 hbytes hbase fun v' w' ho' hg' _ => hK _ _ (h' v' w' ho' hg')
end

theorem own_weaken {w : World} {base B : Nat} {e : TypeId} {size : Nat} {v : Value} {n : Nat} {xs : List Value} (h : w.ownsRow base e size v n xs) (hB : B ≤ base) : w.ownsRow B e size v n xs := by
  refine ⟨h.1, ?_⟩
  rcases h.2 with h2 | ⟨g, cap, cur, hv, hg, r⟩
  · exact .inl h2
  · exact .inr ⟨g, cap, cur, hv, Nat.le_trans hB hg, r⟩

/-- What a row owned from 'base' on leaves alone. -/
theorem own_grown {w w1 w2 : World} {base : Nat} {e : TypeId} {size : Nat} {v : Value} {n : Nat} {xs : List Value} (hb : Below base w w1) (h : w1.ownsRow base e size v n xs) (hg : w1.grownBy w2 v.ownBlock) (hbase : base ≤ w1.heap.size) : Below base w w2 :=
  hb.grown hg hbase fun k hk => (h.lt k hk).1

/-- Block g is a row of elements of type e (one cell each), none frozen, its first n cells us. -/
def RowIs (w : World) (g : Nat) (e : TypeId) (n : Nat) (us : List Value) : Prop := us.length = n ∧ ∃ cur, Blk w g e cur ∧ n ≤ cur.size ∧ cur.toList.take n = us

section
variable {w w' : World} {g n : Nat} {e : TypeId} {us : List Value}
theorem RowIs.hasBlk (h : RowIs w g e n us) : HasBlk w g e := by obtain ⟨_, cur, hb, _⟩ := h; exact ⟨cur, hb⟩
theorem RowIs.cell (h : RowIs w g e n us) {j : Nat} {u : Value} (hj : us[j]? = some u) : w.cell? ⟨g, j, none⟩ = some u := by
  obtain ⟨hl, cur, hb, hn, ht⟩ := h
  have hjn : j < n := by have := (List.getElem?_eq_some_iff.1 hj).1; omega
  rw [hb.cell j]
  rw [← ht, List.getElem?_take_of_lt hjn] at hj
  simpa using hj
theorem RowIs.set_ (h : RowIs w g e n us) (j : Nat) (u : Value) : RowIs (w.setCell ⟨g, j, none⟩ u) g e n (us.set j u) := by
  obtain ⟨hl, cur, hb, hn, ht⟩ := h
  refine ⟨by simpa using hl, cur.setIfInBounds j u, hb.set_ j u, by simpa using hn, ?_⟩
  rw [← ht, Array.toList_setIfInBounds, List.take_set]
theorem RowIs.below {B : Nat} (h : RowIs w g e n us) (hb : Below B w w') (hg : g < B) : RowIs w' g e n us := by
  obtain ⟨hl, cur, h1, h2⟩ := h; exact ⟨hl, cur, h1.below hb hg, h2⟩
theorem RowIs.vals (h : RowIs w g e n us) : IsVals w (some ⟨g, 0, none⟩) n us :=
  ⟨h.1, fun _ => ⟨g, 0, rfl, h.hasBlk.lt, fun j u hj => by rw [Nat.zero_add]; exact h.cell hj⟩⟩
theorem rowIs_of_own {base n c : Nat} {A : Option Addr} (h : w.ownsRow base e 1 (.slice A n c) n us) (hn : 0 < n) : ∃ g, A = some ⟨g, 0, none⟩ ∧ base ≤ g ∧ RowIs w g e n us := by
  have hl : us.length = n := by simpa using h.1
  rcases h.2 with ⟨_, rfl⟩ | ⟨g, cap, cur, hv, hb, hg, hnc, hm, hs, ht⟩
  · omega
  · obtain ⟨rfl, _⟩ : A = some ⟨g, 0, none⟩ ∧ c = cap := by simpa using hv
    exact ⟨g, rfl, hb, hl, cur, hg, by omega, by simpa using ht⟩
end

/-- One new cell, as the slice that 'append(xs, x)' is handed. -/
theorem vals_one (w : World) (u : Value) (e : TypeId) : IsVals (w.alloc (.cells #[u] e)) (some ⟨w.heap.size, 0, none⟩) 1 [u] :=
  ⟨rfl, fun _ => ⟨_, _, rfl, by simp, fun j x hj => by
    have hb := Blk.new w e #[u]
    rcases j with _ | j
    · rw [(Blk.cell hb (0 + 0))]; simpa using hj
    · simp at hj⟩⟩

/-- A new row, whole. -/
theorem vals_new (w : World) (cs : Array Value) (e : TypeId) : IsVals (w.alloc (.cells cs e)) (some ⟨w.heap.size, 0, none⟩) cs.size cs.toList :=
  ⟨by simp, fun _ => ⟨_, _, rfl, by simp, fun j x hj => by
    have hb := Blk.new w e cs
    rw [Nat.zero_add, hb.cell j]
    simpa using hj⟩⟩

/-- An empty literal 'T{}' is an owned row. -/
theorem own_empty (w : World) (base : Nat) (e : TypeId) (hb : base ≤ w.heap.size) : (w.alloc (.cells #[] e)).ownsRow base e 1 (.slice (some ⟨w.heap.size, 0, none⟩) 0 0) 0 [] :=
  World.ownsRow_made w #[] 0 hb (by unfold maxLen; omega) rfl

end Go.Proofs.Ytbhhbddmokddeaa
