/-
  Where, Row, Next, Mask, Len; Empty.
-/
import Derived.Test.YtbhhbddmokddeaaWhF
namespace Go.Proofs.Ytbhhbddmokddeaa
open Go.RowKit Go.Maps

def ivals (xs : List Int) : List Value := xs.map (.int .i64)
abbrev IsInts (w : World) (A : Option Addr) (n : Nat) (xs : List Int) : Prop := IsVals w A n (ivals xs)

theorem ivals_append (xs ys : List Int) : ivals (xs ++ ys) = ivals xs ++ ivals ys := List.map_append

theorem ivals_cell (zs : List Int) : ∀ u ∈ ivals zs, u.oneCell' = true := by
  intro u hu
  obtain ⟨_, _, rfl⟩ := List.mem_map.1 hu
  rfl

theorem IsInts.len {w : World} {A : Option Addr} {n : Nat} {xs : List Int} (h : IsInts w A n xs) : xs.length = n := by
  have := h.1
  rwa [ivals, List.length_map] at this

theorem IsInts.at_ {w : World} {A : Option Addr} {n : Nat} {xs : List Int} (h : IsInts w A n xs) {k : Nat} (hk : k < n) : ∃ b o, A = some ⟨b, o, none⟩ ∧ b < w.heap.size ∧ w.cell? ⟨b, o + k, none⟩ = some (.int .i64 (xs.getD k 0)) := by
  obtain ⟨b, o, e, hb, hc⟩ := h.2 (by omega)
  refine ⟨b, o, e, hb, hc k _ ?_⟩
  have := h.len
  rw [ivals, List.getElem?_map, List.getD_eq_getElem?_getD, List.getElem?_eq_getElem (by omega)]
  rfl

theorem infoInt : (Try.prog.info? 3).map (fun i => (i.zero, i.size, i.bytes)) = some (some (.int .i64 0), 1, 8) := by kernel_rfl

def ids (l : List Nd) : List Int := l.map (·.2)

/-! ### nil -/

theorem where_nil {w : World} {id : Int} (Q : Ending → World → Prop) (hQ : Q (.returned (.tuple #[.int .i64 0, .bool false])) w) :
    Calls Try.prog 20 #[.pointer none, .int .i64 id] w Q := by
  go_enter Try.func20, Try.ntmps20
  go_wp2
  exact hQ

theorem next_nil {w : World} {s : Int} (Q : Ending → World → Prop) (hQ : Q (.returned (.tuple #[.int .i64 0, .bool false])) w) :
    Calls Try.prog 18 #[.pointer none, .int .i64 s] w Q := by
  go_enter Try.func18, Try.ntmps18
  go_wp2
  exact hQ

theorem mask_nil {w : World} (Q : Ending → World → Prop) (hQ : Q (.returned (.int .u64 0)) w) :
    Calls Try.prog 11 #[.pointer none] w Q := by
  go_enter Try.func11, Try.ntmps11
  go_wp2
  exact hQ

theorem len_nil {w : World} (Q : Ending → World → Prop) (hQ : Q (.returned (.int .i64 0)) w) :
    Calls Try.prog 13 #[.pointer none] w Q := by
  go_enter Try.func13, Try.ntmps13
  go_wp2
  exact hQ

theorem row_nil {w : World} {s : Int} (Q : Ending → World → Prop) (hQ : Q (.returned (.slice none 0 0)) w) :
    Calls Try.prog 19 #[.pointer none, .int .i64 s] w Q := by
  go_enter Try.func19, Try.ntmps19
  go_wp2_with fail
  refine may_nil _ ?_
  go_wp2_with fail
  exact hQ

theorem empty_nil {w : World} {s : Int} (Q : Ending → World → Prop) (hQ : Q (.returned (.slice none 0 0)) w) :
    Calls Try.prog 17 #[.pointer none, .int .i64 s] w Q := by
  have HQ := Lib.hid hQ
  clear hQ
  go_enter Try.func17, Try.ntmps17
  go_wp2_with fail
  refine row_nil _ ?_
  go_wp2_with fail
  go_loopg [13] 0 (fun g i wr => i = .int .i64 0 ∧ wr = w)
  case atStart => exact ⟨rfl, rfl⟩
  case round =>
    obtain ⟨rfl, rfl⟩ := hrel
    go_wp2_with fail
    exact HQ.out

/-! ### what is told -/

theorem where_out {w : World} {S M K n mv : Nat} {id : Int} {rows : Nat → List Nd} (h : Whl w S M K n rows mv) (hid : hasId rows id = false) (hi : (Lit.int .i64 id).wf = true) (Q : Ending → World → Prop)
    (hQ : Q (.returned (.tuple #[.int .i64 0, .bool false])) w) :
    Calls Try.prog 20 #[ptr S, .int .i64 id] w Q := by
  obtain ⟨f, hm, _, hf2⟩ := h.map
  have c1 := h.mc
  have HF := Lib.hid (hf2 id fun s hs p hp e => by
    rw [hasId_iff.2 ⟨s, hs, p, hp, e⟩] at hid
    cases hid)
  have HM0 := Lib.hid hm
  clear hm hf2 h hid
  go_enter Try.func20, Try.ntmps20
  go_wp2_with (first
    | (at_lookup; refine wpList_look_miss _ rfl _ _ 49 rfl 3 51 Try.underlying3 Try.underlying49 (zeroLink _) M n _ f rfl HM0.out id rfl hi HF.out ?_))
  exact hQ

theorem where_in {w : World} {S M K n mv s L : Nat} {id : Int} {rows : Nat → List Nd} (h : Whl w S M K n rows mv) (hs : s < 64) (hp : (L, id) ∈ rows s) (Q : Ending → World → Prop)
    (hQ : Q (.returned (.tuple #[.int .i64 (s : Int), .bool true])) w) :
    Calls Try.prog 20 #[ptr S, .int .i64 id] w Q := by
  obtain ⟨f, hm, hf1, _⟩ := h.map
  have c1 := h.mc
  have hi := h.fits s hs _ hp
  have HF := Lib.hid (hf1 s hs _ hp)
  have HM0 := Lib.hid hm
  have l1 : w.cell? ⟨L, 1, none⟩ = some (.int .i64 (s : Int)) := by
    obtain ⟨pre, post, hr⟩ := List.append_of_mem hp
    have hsg := h.seg s hs
    rw [hr, Seg.append] at hsg
    exact hsg.2.1.2.1
  clear hm hf1 h hp
  go_enter Try.func20, Try.ntmps20
  go_wp2_with (first
    | (at_lookup; refine wpList_look_hit _ rfl _ _ 49 rfl 3 51 Try.underlying3 Try.underlying49 (zeroLink _) M n _ f rfl HM0.out id rfl hi _ HF.out ?_))
  exact hQ

theorem mask_any {w : World} {S M K n mv : Nat} {rows : Nat → List Nd} (h : Whl w S M K n rows mv) (Q : Ending → World → Prop) (hQ : Q (.returned (.int .u64 (mv : Int))) w) :
    Calls Try.prog 11 #[ptr S] w Q := by
  obtain ⟨c, ck⟩ := h.kc
  have cr : w.cell? ⟨K, 0, none⟩ = some (.int .u64 (mv : Int)) := h.row.cell rfl
  clear h
  go_enter Try.func11, Try.ntmps11
  go_wp2
  exact hQ

theorem len_any {w : World} {S M K n mv : Nat} {rows : Nat → List Nd} (h : Whl w S M K n rows mv) (Q : Ending → World → Prop) (hQ : Q (.returned (.int .i64 (tot rows : Nat))) w) :
    Calls Try.prog 13 #[ptr S] w Q := by
  obtain ⟨f, hm, _⟩ := h.map
  have c1 := h.mc
  have HM0 := Lib.hid hm
  clear h hm
  go_enter Try.func13, Try.ntmps13
  go_wp2_with (first
    | (at_len; refine wpList_maplen _ rfl _ 49 rfl 3 51 Try.underlying49 M n _ f rfl HM0.out ?_))
  exact hQ

theorem wnext_any {w : World} {S M K n mv : Nat} {rows : Nat → List Nd} (h : Whl w S M K n rows mv) (f : Int) (hf : f ≤ 9223372036854775807) (Q : Ending → World → Prop) (hQ : Q (.returned (nv (nextB [mv] f.toNat))) w) :
    Calls Try.prog 18 #[ptr S, .int .i64 f] w Q := by
  obtain ⟨c, ck⟩ := h.kc
  have hn := Lib.hid (next_any (c := c) h.row.vals (fun x hx => by obtain rfl : x = mv := by simpa using hx
                                                                   exact h.mlt) (by decide) f f.toNat rfl hf)
  have HQ := Lib.hid hQ
  clear h hQ
  generalize nextB [mv] f.toNat = o at *
  cases o
  all_goals
    unfold nv at hn HQ
    go_enter Try.func18, Try.ntmps18
    go_wp2_with fail
    refine hn.out _ ?_
    go_wp2_with fail
    exact HQ.out

theorem row_bad {w : World} {S : Nat} {s : Int} (h : mayB s = false) (Q : Ending → World → Prop) (hQ : Q (.returned (.slice none 0 0)) w) :
    Calls Try.prog 19 #[ptr S, .int .i64 s] w Q := by
  have HM := Lib.hid h
  clear h
  go_enter Try.func19, Try.ntmps19
  go_wp2_with fail
  refine may_any _ ?_
  rw [HM.out]
  go_wp2_with fail
  exact hQ

set_option maxHeartbeats 400000 in
theorem row_ok {w : World} {S M K n mv s : Nat} {rows : Nat → List Nd} (h : Whl w S M K n rows mv) (hs : s < 64) (hl : (rows s).length ≤ 100000) (Q : Ending → World → Prop)
    (hQ : ∀ w' A' c', w'.ownsRow w.heap.size 3 1 (.slice A' (rows s).length c') (rows s).length (ivals (ids (rows s))) → Below w.heap.size w w' → Q (.returned (.slice A' (rows s).length c')) w') :
    Calls Try.prog 19 #[ptr S, .int .i64 (s : Int)] w Q := by
  have hm : mayB (s : Int) = true := by unfold mayB; rw [decide_eq_true_iff]; omega
  have HMY := Lib.hid hm
  have HQ := Lib.hid hQ
  have c0 := h.fst s hs
  have hs0 : (0 : Int) ≤ (s : Int) := by omega
  have hs1 : (s : Int) < 64 := by omega
  have HS := Lib.hid (h.seg s hs)
  have HLT := Lib.hid (fun p (hp : p ∈ rows s) => (h.blk s hs p hp).lt)
  clear hm hQ h
  generalize rows s = l at *
  generalize hhd : hdOr l (.pointer none) = hd0 at c0
  have HHD := Lib.hid hhd
  clear hhd
  go_enter Try.func19, Try.ntmps19
  go_wp2_with fail
  refine may_any _ ?_
  rw [HMY.out]
  go_wp2_with fail
  go_loopg [5, 6] l.length (fun g r p wr => ∃ (a b : List Nd) (A' : Option Addr) (c' : Nat), g = b.length ∧ p = hdOr b (.pointer none) ∧ r = .slice A' a.length c' ∧ Hid (l = a ++ b ∧ wr.ownsRow w.heap.size 3 1 (.slice A' a.length c') a.length (ivals (ids a)) ∧ Below w.heap.size w wr))
  case atStart => exact ⟨[], l, _, _, rfl, HHD.out.symm, rfl, Lib.hid ⟨rfl, World.ownsRow_nil _ _ _ _, Below.refl _ _⟩⟩
  case round =>
    obtain ⟨a, b, A', c', hg, rfl, rfl, HR⟩ := hrel
    have HG := Lib.hid hg
    clear hg
    cases b with
    | nil =>
      obtain rfl : l = a := by have := HR.out.1; simpa using this
      rw [show hdOr ([] : List Nd) (.pointer none) = .pointer none from rfl]
      go_wp2_with fail
      exact HQ.out _ _ _ HR.out.2.1 HR.out.2.2
    | cons p b =>
      obtain ⟨P, id⟩ := p
      have hsg := HS.out
      rw [HR.out.1, Seg.append] at hsg
      have hlt := HLT.out (P, id) (by rw [HR.out.1]; simp)
      have hlen : a.length + 1 ≤ 100000 := by have := congrArg List.length HR.out.1; simp at this; omega
      have d0 := hsg.2.1.1
      have d3 := hsg.2.1.2.2.2
      have D3 := Lib.hid (show w.cell? ⟨P, 3, none⟩ = some (hdOr b (.pointer none)) from d3)
      have f0 : wr.cell? ⟨P, 0, none⟩ = some (.int .i64 id) := (HR.out.2.2.cell (p := ⟨P, 0, none⟩) hlt).trans d0
      have hsz := HR.out.2.2.size
      have HB := Lib.hid (show l = (a ++ [(P, id)]) ++ b by rw [HR.out.1]; simp)
      have HA : Hid ((a ++ [(P, id)]).length = a.length + 1 ∧ ivals (ids (a ++ [(P, id)])) = ivals (ids a) ++ [.int .i64 id]) := Lib.hid ⟨by simp, by simp [ivals, ids]⟩
      clear hsg d0 d3
      generalize hnx : hdOr b (.pointer none) = nx at *
      have HNX := Lib.hid hnx
      clear hnx
      rw [show hdOr ((P, id) :: b) (.pointer none) = ptr P from rfl]
      go_wp2_with (at_builtin; refine wpList_app rfl (.tmp 24) (.tmp 29) 26 rfl w.heap.size 3 Try.underlying26 infoInt rfl (.slice A' a.length c') a.length _ rfl (HR.out.2.1.alloc _) (some ⟨wr.heap.size, 0, none⟩) 1 1 [.int .i64 id] rfl (vals_one _ _ _) (by simp [Value.oneCell']) (by unfold maxLen; omega) (by omega) (by simp; omega) ?_; intro A1 c1 w1 ho1 hg1; have HO1 := Lib.hid ho1; have HB1 := Lib.hid (own_grown (HR.out.2.2.alloc hsz _) (HR.out.2.1.alloc _) hg1 (by simp; omega)); have f1 := (HB1.out.cell (p := ⟨P, 3, none⟩) hlt).trans D3.out; clear ho1 hg1)
      go_roundg b.length
      case measure => have := HG.out; simp at this; omega
      case rel => exact ⟨a ++ [(P, id)], b, A1, c1, rfl, HNX.out.symm, by rw [HA.out.1], Lib.hid ⟨HB.out, by rw [HA.out.1, HA.out.2]; exact HO1.out, HB1.out⟩⟩
end Go.Proofs.Ytbhhbddmokddeaa
