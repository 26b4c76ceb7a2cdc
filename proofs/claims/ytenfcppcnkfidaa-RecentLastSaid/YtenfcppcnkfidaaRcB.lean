/-
  Order of a Recent; lists of ints, compared; the document's own Recent.
-/
import Derived.Test.YtenfcppcnkfidaaRcA
import Derived.Deep.LoopGhost
import Derived.Deep.DeepFit
namespace Go.Proofs.Ytenfcppcnkfidaa
open Go.RowKit Go.Maps

/-- A slice's cells read as the ints xs. -/
def vals (xs : List Int) : List Value := xs.map (.int .i64)

theorem vals_append (xs ys : List Int) : vals (xs ++ ys) = vals xs ++ vals ys := List.map_append

theorem vals_length (xs : List Int) : (vals xs).length = xs.length := List.length_map _

theorem vals_take (xs : List Int) (k : Nat) : (vals xs).take k = vals (xs.take k) := List.map_take.symm

theorem vals_drop (xs : List Int) (k : Nat) : (vals xs).drop k = vals (xs.drop k) := List.map_drop.symm

def ids (ns : List (Nat × Int)) : List Int := ns.map (·.2)

abbrev IsInts (w : World) (A : Option Addr) (n : Nat) (xs : List Int) : Prop := IsVals w A n (vals xs)

theorem IsInts.len {w : World} {A : Option Addr} {n : Nat} {xs : List Int} (h : IsInts w A n xs) : xs.length = n := by
  have := h.1
  rwa [vals_length] at this

theorem IsInts.at_ {w : World} {A : Option Addr} {n : Nat} {xs : List Int} (h : IsInts w A n xs) {k : Nat} (hk : k < n) : ∃ b o, A = some ⟨b, o, none⟩ ∧ b < w.heap.size ∧ w.cell? ⟨b, o + k, none⟩ = some (.int .i64 (xs.getD k 0)) := by
  obtain ⟨b, o, e, hb, hc⟩ := h.2 (by omega)
  refine ⟨b, o, e, hb, hc k _ ?_⟩
  have := h.len
  rw [vals, List.getElem?_map, List.getD_eq_getElem?_getD, List.getElem?_eq_getElem (by omega)]
  rfl

theorem vals_cell (zs : List Int) : ∀ u ∈ vals zs, u.oneCell' = true := by
  intro u hu
  obtain ⟨_, _, rfl⟩ := List.mem_map.1 hu
  rfl

/-! ### Ints -/

theorem take_succ_eq {xs ys : List Int} {k : Nat} (h : xs.take k = ys.take k) (hx : k < xs.length) (hy : k < ys.length) : (xs.take (k + 1) = ys.take (k + 1)) ↔ xs.getD k 0 = ys.getD k 0 := by
  rw [List.take_succ_eq_append_getElem hx, List.take_succ_eq_append_getElem hy, h, List.append_cancel_left_eq]
  simp [List.getD, hx, hy]

set_option maxHeartbeats 400000 in
theorem ints_any {w : World} {A B : Option Addr} {n m c d : Nat} {xs ys : List Int} (hx : IsInts w A n xs) (hy : IsInts w B m ys) (hn : n ≤ maxLen) (hm : m ≤ maxLen) (Q : Ending → World → Prop)
    (hQ : ∀ k b, (b = true ↔ xs = ys) → Q (.returned (.bool b)) (w.drewN k)) :
    Calls Try.prog 19 #[.slice A n c, .slice B m d] w Q := by
  unfold maxLen at hn hm
  by_cases hnm : n = m
  · subst hnm
    go_enter Try.func19, Try.ntmps19
    have HX := Lib.hid hx
    have HY := Lib.hid hy
    have HQ := Lib.hid hQ
    clear hx hy hQ
    go_wp2_with fail
    go_loopg [5] n (fun g i wr => ∃ k q : Nat, k ≤ n ∧ g = n - k ∧ i = .int .i64 k ∧ wr = w.drewN q ∧ Hid (xs.take k = ys.take k))
    case atStart => exact ⟨0, 0, Nat.zero_le _, rfl, rfl, rfl, Lib.hid rfl⟩
    case round =>
      obtain ⟨k, q, hk, hg, rfl, rfl, HE⟩ := hrel
      have HG := Lib.hid hg
      clear hg
      by_cases hlt : k < n
      · obtain ⟨b, o, rfl, _, cx⟩ := HX.out.at_ hlt
        obtain ⟨b', o', rfl, _, cy⟩ := HY.out.at_ hlt
        have hlx := HX.out.len
        have hly := HY.out.len
        have ht := take_succ_eq HE.out (by omega) (by omega)
        generalize xs.getD k 0 = x at *
        generalize ys.getD k 0 = y at *
        by_cases hxy : x = y
        · have HT := Lib.hid (ht.2 hxy)
          subst hxy
          clear ht hlx hly
          go_wp2_with fail
          go_region
          go_wp2_with fail
          go_roundg (n - (k + 1))
          case measure => have := HG.out; omega
          case rel => exact ⟨k + 1, q + 1, by omega, rfl, by go_num, rfl, HT⟩
        · have HT := Lib.hid fun h => hxy (ht.1 h)
          have hne : (x == y) = false := by simpa using hxy
          have HL := Lib.hid (And.intro hlx hly)
          clear ht hlx hly
          go_wp2_with fail
          go_region
          go_wp2_with fail
          refine HQ.out _ false ?_
          simp only [Bool.false_eq_true, false_iff]
          intro e
          exact HT.out (by rw [e])
      · have e : k = n := by omega
        subst e
        go_wp2_with fail
        refine HQ.out q true ?_
        have h1 := HX.out.len
        have h2 := HY.out.len
        have h3 := HE.out
        rw [List.take_of_length_le (by omega), List.take_of_length_le (by omega)] at h3
        simpa using h3
  · go_enter Try.func19, Try.ntmps19
    have HQ := Lib.hid hQ
    clear hQ
    go_wp2_with fail
    refine HQ.out 0 false ?_
    simp only [Bool.false_eq_true, false_iff]
    rintro rfl
    exact hnm (hx.len.symm.trans hy.len)

/-! ### Order -/

theorem infoInt : (Try.prog.info? 3).map (fun i => (i.zero, i.size, i.bytes)) = some (some (.int .i64 0), 1, 8) := by kernel_rfl

/-- The first block of a list of links; R where there is none. -/
def headB (ns : List (Nat × Int)) (R : Nat) : Nat := (ns.map (·.1)).headD R

/-- In the middle of Order: xs have been told, ys are still to come. -/
def Ordering (w : World) (R : Nat) (ns : List (Nat × Int)) (g : Nat) (v l : Value) (wr : World) : Prop :=
  ∃ xs ys, ns = xs ++ ys ∧ g = ys.length ∧ l = ptr (headB ys R) ∧ wr.ownsRow w.heap.size 3 1 v xs.length (vals (ids xs)) ∧ Below w.heap.size w wr

theorem Rec.below {w w' : World} {S R M n : Nat} {ns : List (Nat × Int)} (h : Rec w S R M n ns) (hb : Below w.heap.size w w') : Rec w' S R M n ns := h.only (G := fun _ => False) (Only.ofBelow hb) fun _ _ => id

theorem Rec.next {w : World} {S R M n : Nat} {xs ys : List (Nat × Int)} (h : Rec w S R M n (xs ++ ys)) : w.cell? ⟨(xs.map (·.1)).getLastD R, 2, none⟩ = some (ptr (headB ys R)) := by
  have hp := h.path
  rw [List.map_append] at hp
  have key : ∀ (r : List Nat) (a : Nat) (t : List Nat), Path (cellsOf w) a (r ++ t) R → w.cell? ⟨r.getLastD a, 2, none⟩ = some (ptr (t.headD R)) := by
    intro r
    induction r with
    | nil => intro a t h; exact h.first
    | cons b r ih => intro a t h; rw [List.getLastD_cons]; exact ih b t h.2
  exact key _ _ _ hp

set_option maxHeartbeats 400000 in
theorem order_rec {w : World} {S R M n : Nat} {ns : List (Nat × Int)} (h : Rec w S R M n ns) (hlen : ns.length ≤ 100000) (Q : Ending → World → Prop)
    (hQ : ∀ w' v, w'.ownsRow w.heap.size 3 1 v ns.length (vals (ids ns)) → Below w.heap.size w w' → Q (.returned v) w') :
    Calls Try.prog 20 #[ptr S] w Q := by
  have s0 := h.s0
  have r2 : w.cell? ⟨R, 2, none⟩ = some (ptr (headB ns R)) := h.path.first
  have H := Lib.hid h
  have HQ := Lib.hid hQ
  obtain ⟨b0, hb0⟩ : ∃ b0, headB ns R = b0 := ⟨_, rfl⟩
  rw [hb0] at r2
  have HB0 := Lib.hid hb0
  clear h hQ hb0
  go_enter Try.func20, Try.ntmps20
  go_wp2_with fail
  go_loopg [3, 4] ns.length (fun g v l wr => Ordering w R ns g v l wr)
  case atStart => exact ⟨[], ns, rfl, rfl, by rw [HB0.out], World.ownsRow_nil _ _ _ _, Below.refl _ _⟩
  case round =>
    obtain ⟨xs, ys, e, hg, rfl, hown, hb⟩ := hrel
    clear s0 r2
    have hr := H.out.below hb
    have s0 := hr.s0
    cases ys with
    | nil =>
      have hq := link_neq (hr.blk R (by simp)) (hr.blk R (by simp))
      simp only [bne_self_eq_false] at hq
      have e' : xs = ns := by rw [e]; simp
      subst e'
      have HO := Lib.hid (And.intro hown hb)
      have HH := Lib.hid hr
      clear hown hb hr e hg
      rw [show headB [] R = R from rfl]
      go_wp2_with fail
      exact HQ.out _ _ HO.out.1 HO.out.2
    | cons y r =>
      obtain ⟨N, id⟩ := y
      subst e
      have hN : (N, id) ∈ xs ++ (N, id) :: r := by simp
      have hmN : N ∈ R :: (xs ++ (N, id) :: r).map (·.1) := List.mem_cons_of_mem _ (List.mem_map_of_mem hN)
      have hne : N ≠ R := fun e => (List.nodup_cons.1 hr.nd).1 (by rw [← e]; exact List.mem_map_of_mem hN)
      have hq := link_neq (hr.blk N hmN) (hr.blk R (by simp))
      rw [bne_iff_ne.2 hne] at hq
      have n0 := hr.ids _ hN
      have n2 := Rec.next (xs := xs ++ [(N, id)]) (ys := r) (by simpa using hr)
      simp only [List.map_append, List.map_cons, List.map_nil, List.getLastD_concat] at n2
      have HB := Lib.hid hb
      have HH := Lib.hid hr
      have HG := Lib.hid hg
      have hlx : xs.length ≤ 100000 := by simp only [List.length_append] at hlen; omega
      have hNlt := (hr.blk N hmN).lt
      have hbs := hb.size
      have HN := Lib.hid (And.intro hN hmN)
      have HL := Lib.hid hlen
      clear hb hr hg hN hmN hlen
      rw [show headB ((N, id) :: r) R = N from rfl]
      have hst : ∀ w2, (wr.alloc (.cells #[.int .i64 id] 3)).grownBy w2 u3.ownBlock → Below w.heap.size w w2 ∧ w2.cell? ⟨S, 0, none⟩ = some (ptr R) ∧ w2.cell? ⟨N, 2, none⟩ = some (ptr (headB r R)) := by
        intro w2 hg2
        have hb2 : Below w.heap.size w w2 := (HB.out.alloc hbs _).grown hg2 (by simp; omega) (fun k hk => ((hown.alloc (.cells #[.int .i64 id] 3)).lt k hk).1)
        have hr2 := H.out.below hb2
        exact ⟨hb2, hr2.s0, by have := Rec.next (xs := xs ++ [(N, id)]) (ys := r) (by simpa using hr2); simpa only [List.map_append, List.map_cons, List.map_nil, List.getLastD_concat] using this⟩
      have HST := Lib.hid hst
      clear hst
      go_wp2_with (first
        | (at_builtin; refine wpList_app rfl (.tmp 24) (.tmp 29) 26 rfl w.heap.size 3 Try.underlying26 infoInt rfl _ _ _ rfl (hown.alloc _) (some ⟨wr.heap.size, 0, none⟩) 1 1 [.int .i64 id] rfl (vals_one _ _ _) (by simp [Value.oneCell']) (by unfold maxLen; omega) (by omega) (by simp; omega) ?_; intro A2 c2 w2 hown2 hg2; obtain ⟨hb2, s2, n2'⟩ := HST.out w2 hg2; have HB2 := Lib.hid hb2; clear hb2))
      go_roundg r.length
      case measure => have := HG.out; simp at this; omega
      case rel => exact ⟨xs ++ [(N, id)], r, by simp, rfl, rfl, by simpa [ids, vals] using hown2, HB2.out⟩
end Go.Proofs.Ytenfcppcnkfidaa
