/-
  The state of a Recent of one call's own, carried from call to call; 'live' is true.
-/
import Derived.Test.YtenfcppcnkfidaaRcC
namespace Go.Proofs.Ytenfcppcnkfidaa
open Go.RowKit Go.Maps

/-- A Recent whose blocks lie from B on; below B all is as in w0. -/
structure St (w0 : World) (B : Nat) (w : World) (S R M n : Nat) (ns : List (Nat × Int)) : Prop where
  re : Rec w S R M n ns
  foot : ∀ k, Foot S R M ns k → B ≤ k
  bel : Below B w0 w
  siz : B ≤ w.heap.size

section
variable {w0 w : World} {B S R M n : Nat} {ns : List (Nat × Int)}

theorem St.drewN (h : St w0 B w S R M n ns) (k : Nat) : St w0 B (w.drewN k) S R M n ns :=
  ⟨h.re.only (G := fun _ => False) ((Only.refl _ w).drewN k) fun _ _ => id, h.foot, ⟨h.bel.os, h.bel.tape, h.bel.output, h.bel.size, h.bel.block⟩, h.siz⟩

theorem St.drew (h : St w0 B w S R M n ns) : St w0 B w.drew S R M n ns := h.drewN 1

theorem St.below (h : St w0 B w S R M n ns) {w' : World} (hb : Below w.heap.size w w') : St w0 B w' S R M n ns :=
  ⟨h.re.below hb, h.foot, h.bel.trans (hb.mono h.siz), Nat.le_trans h.siz hb.size⟩

theorem new_st (Q : Ending → World → Prop) (hQ : ∀ w' S R M, St w w.heap.size w' S R M 0 [] → Q (.returned (ptr S)) w') :
    Calls Try.prog 8 #[] w Q :=
  new_rec Q fun w' S R M h hb hf => hQ w' S R M ⟨h, hf, hb, hb.size⟩

theorem foot_rest {id : Int} {L : Nat} (hf : ∀ k, Foot S R M ns k → B ≤ k) (hL : B ≤ L) : ∀ k, Foot S R M (rest id ns ++ [(L, id)]) k → B ≤ k := by
  rintro k (rfl | rfl | hk)
  · exact hf _ (.inl rfl)
  · exact hf _ (.inr (.inl rfl))
  · simp only [List.map_append, List.mem_cons, List.mem_append, List.mem_map, List.map_cons, List.map_nil, List.not_mem_nil, or_false] at hk
    rcases hk with rfl | ⟨p, hp, rfl⟩ | rfl
    · exact hf _ (.inr (.inr (by simp)))
    · exact hf _ (.inr (.inr (List.mem_cons_of_mem _ (List.mem_map_of_mem (List.mem_filter.1 hp).1))))
    · exact hL

theorem foot_rest' {id : Int} (hf : ∀ k, Foot S R M ns k → B ≤ k) : ∀ k, Foot S R M (rest id ns) k → B ≤ k := by
  rintro k (rfl | rfl | hk)
  · exact hf _ (.inl rfl)
  · exact hf _ (.inr (.inl rfl))
  · simp only [List.mem_cons, List.mem_map] at hk
    rcases hk with rfl | ⟨p, hp, rfl⟩
    · exact hf _ (.inr (.inr (by simp)))
    · exact hf _ (.inr (.inr (List.mem_cons_of_mem _ (List.mem_map_of_mem (List.mem_filter.1 hp).1))))

theorem touch_st (h : St w0 B w S R M n ns) {id : Int} (hi : (Lit.int .i64 id).wf = true) (h0 : 0 ≤ id) (hn : n < 100000) (Q : Ending → World → Prop)
    (hQ : ∀ w' L, Only (Foot S R M ns) w w' → St w0 B w' S R M (n + 1) (rest id ns ++ [(L, id)]) → Q (.returned (.int .i64 0)) w') :
    Calls Try.prog 10 #[ptr S, .int .i64 id] w Q :=
  touch_rec h.re hi h0 (by unfold maxLen; omega) Q fun w' L hL hr ho =>
    hQ w' L ho ⟨hr, foot_rest h.foot (Nat.le_trans h.siz hL), h.bel.trans (ho.below h.foot h.siz), Nat.le_trans h.siz ho.size⟩

theorem drop_st (h : St w0 B w S R M n ns) {id : Int} (hi : (Lit.int .i64 id).wf = true) (Q : Ending → World → Prop)
    (hQ : ∀ w', Only (Foot S R M ns) w w' → St w0 B w' S R M n (rest id ns) → Q (.returned (.bool (ns.any (·.2 == id)))) w') :
    Calls Try.prog 12 #[ptr S, .int .i64 id] w Q :=
  drop_rec h.re hi Q fun w' hr ho hz =>
    hQ w' ho ⟨hr, foot_rest' h.foot, h.bel.trans (ho.below h.foot h.siz), by rw [hz]; exact h.siz⟩

theorem order_st (h : St w0 B w S R M n ns) (hlen : ns.length ≤ 100000) (Q : Ending → World → Prop)
    (hQ : ∀ w' A c, Below w.heap.size w w' → w'.ownsRow B 3 1 (.slice A ns.length c) ns.length (vals (ids ns)) → Q (.returned (.slice A ns.length c)) w') :
    Calls Try.prog 20 #[ptr S] w Q :=
  order_rec h.re hlen Q fun w' v ho hb => by
    obtain ⟨A, c, rfl, hv, _⟩ := vals_of_own ho
    exact hQ w' A c hb (own_weaken ho h.siz)

theorem ints_own {A : Option Addr} {k c : Nat} {xs : List Int} (h : w.ownsRow B 3 1 (.slice A k c) k (vals xs)) : IsInts w A k xs := by
  obtain ⟨A', c', e, hv, _⟩ := vals_of_own h
  have : A = A' := by simp at e; exact e.1
  subst this
  exact hv

theorem Rec.own_kept {base k : Nat} {e : TypeId} {v : Value} {us : List Value} (h : Rec w S R M n ns) (he : e ≠ 47) (he' : e ≠ 50) (ho : w.ownsRow base e 1 v k us) {w' : World} (hf : Only (Foot S R M ns) w w') : w'.ownsRow base e 1 v k us := by
  refine hf.own ho fun g hg => ?_
  rcases ho.2 with ⟨e, _⟩ | ⟨g', cap, cur, e, _, hh, _⟩
  · subst e; simp [Value.ownBlock] at hg
  · subst e
    have : g' = g := by simpa [Value.ownBlock] using hg
    subst this
    exact h.foot_ne ⟨cur, hh⟩ he he'
end

/-- What Touch tells, and what it makes of the ids. -/
def te (id : Int) : Int := if id < 0 then 1 else 0
def tI (id : Int) (xs : List Int) : List Int := if id < 0 then xs else restI id xs ++ [id]

/-- A row of ints that the call owns stands. -/
def Kept (w w' : World) : Prop := ∀ (base k : Nat) (v : Value) (us : List Value), w.ownsRow base 3 1 v k us → w'.ownsRow base 3 1 v k us

section
variable {w0 w : World} {B S R M n : Nat} {ns : List (Nat × Int)}

theorem St.len_le (h : St w0 B w S R M n ns) : ns.length ≤ n := by
  obtain ⟨f, hf, _⟩ := h.re.map
  exact hf.size_le

theorem touch_any (h : St w0 B w S R M n ns) {id : Int} (hi : (Lit.int .i64 id).wf = true) (hn : n < 100000) (Q : Ending → World → Prop)
    (hQ : ∀ w' ns', Only (Foot S R M ns) w w' → Kept w w' → St w0 B w' S R M (n + 1) ns' → ids ns' = tI id (ids ns) → Q (.returned (.int .i64 (te id))) w') :
    Calls Try.prog 10 #[ptr S, .int .i64 id] w Q := by
  by_cases h0 : id < 0
  · refine touch_bad (.inr ⟨⟨S, rfl⟩, h0⟩) Q ?_
    have := hQ w ns (Only.refl _ _) (fun _ _ _ _ h => h) ⟨h.re.mono (Nat.le_succ n), h.foot, h.bel, h.siz⟩ (by rw [tI, if_pos h0])
    rwa [te, if_pos h0] at this
  · refine touch_st h hi (by omega) hn Q fun w' L ho hs' => ?_
    have := hQ w' _ ho (fun _ _ _ _ hr => h.re.own_kept (by decide) (by decide) hr ho) hs' (by
      rw [tI, if_neg h0, ← ids_rest]
      simp [ids])
    rwa [te, if_neg h0] at this

theorem drop_any (h : St w0 B w S R M n ns) {id : Int} (hi : (Lit.int .i64 id).wf = true) (Q : Ending → World → Prop)
    (hQ : ∀ w' ns', Only (Foot S R M ns) w w' → Kept w w' → St w0 B w' S R M n ns' → ids ns' = restI id (ids ns) → Q (.returned (.bool ((ids ns).any (· == id)))) w') :
    Calls Try.prog 12 #[ptr S, .int .i64 id] w Q := by
  refine drop_st h hi Q fun w' ho hs' => ?_
  have := hQ w' _ ho (fun _ _ _ _ hr => h.re.own_kept (by decide) (by decide) hr ho) hs' (ids_rest id ns)
  have e : ((ids ns).any (· == id)) = ns.any (·.2 == id) := by unfold ids; rw [List.any_map]; rfl
  rw [e] at this
  exact this

theorem order_any {xs : List Int} (h : St w0 B w S R M n ns) (hx : ids ns = xs) (hn : n ≤ 100000) (Q : Ending → World → Prop)
    (hQ : ∀ w' A c, Below w.heap.size w w' → w'.ownsRow B 3 1 (.slice A xs.length c) xs.length (vals xs) → Q (.returned (.slice A xs.length c)) w') :
    Calls Try.prog 20 #[ptr S] w Q := by
  subst hx
  have e : (ids ns).length = ns.length := by simp [ids]
  rw [e] at hQ
  exact order_st h (Nat.le_trans h.len_le hn) Q hQ

theorem len_any {xs : List Int} (h : St w0 B w S R M n ns) (hx : ids ns = xs) (Q : Ending → World → Prop) (hQ : Q (.returned (.int .i64 (xs.length : Int))) w) :
    Calls Try.prog 18 #[ptr S] w Q := by
  subst hx
  refine len_rec h.re Q ?_
  simpa [ids] using hQ

theorem Kept.below {w' : World} (hb : Below w.heap.size w w') : Kept w w' := fun _ _ _ _ hr => (Only.ofBelow (F := fun _ => False) hb).own hr fun _ _ => id
end

set_option maxHeartbeats 1000000 in
theorem live_any {w : World} (Q : Ending → World → Prop) (hQ : ∀ w', Below w.heap.size w w' → Q (.returned (.bool true)) w') :
    Calls Try.prog 9 #[] w Q := by
  have HQ := Lib.hid hQ
  clear hQ
  go_enter Try.func9, Try.ntmps9
  go_wp2_with fail
  refine new_st _ fun w1 S R M h1 => ?_
  go_wp2_with fail
  refine touch_st h1 (id := 1) (by decide) (by decide) (by decide) _ fun w2 L2 _ h2 => ?_
  go_wp2_with fail
  refine touch_st h2 (id := 2) (by decide) (by decide) (by decide) _ fun w3 L3 _ h3 => ?_
  go_wp2_with fail
  refine touch_st h3 (id := 1) (by decide) (by decide) (by decide) _ fun w4 L4 _ h4 => ?_
  have e4 : rest 1 (rest 2 (rest 1 [] ++ [(L2, 1)]) ++ [(L3, 2)]) ++ [(L4, 1)] = [(L3, 2), (L4, 1)] := rfl
  rw [e4] at h4
  clear h1 h2 h3 e4
  have q1 : hd [2, 1] = 2 := rfl
  have q2 : more [2, 1] = true := rfl
  have q3 : hd (behindIds 2 [2, 1]) = 1 := rfl
  have q4 : more (behindIds 2 [2, 1]) = true := rfl
  have q5 : hd (behindIds 1 [2, 1]) = 0 := rfl
  have q6 : more (behindIds 1 [2, 1]) = false := rfl
  go_wp2_with fail
  refine touch_bad (.inr ⟨⟨S, rfl⟩, by decide⟩) _ ?_
  go_wp2_with fail
  refine oldest_rec h4.re _ ?_
  go_wp2_with fail
  refine newer_rec h4.drew.re (id := 2) (by decide) _ fun m5 => ?_
  go_wp2_with fail
  refine newer_rec (h4.drewN _).re (id := 1) (by decide) _ fun m6 => ?_
  go_wp2_with fail
  refine order_st (h4.drewN _) (by simp) _ fun w5 A c hb5 hv5 => ?_
  have h5 := (h4.drewN _).below hb5
  clear q1 q2 q3 q4 q5 q6 h4 hb5
  go_wp2_with fail
  refine drop_st h5 (id := 2) (by decide) _ fun w6 o6 h6 => ?_
  have v6 := h5.re.own_kept (by decide) (by decide) hv5 o6
  rw [show rest 2 [(L3, 2), (L4, 1)] = [(L4, 1)] from rfl] at h6
  clear h5 hv5 o6
  go_wp2_with fail
  refine drop_st h6 (id := 2) (by decide) _ fun w7 o7 h7 => ?_
  have v7 := h6.re.own_kept (by decide) (by decide) v6 o7
  rw [show rest 2 [(L4, 1)] = [(L4, 1)] from rfl] at h7
  clear h6 v6 o7
  have V7 := Lib.hid v7
  clear v7
  go_wp2_with fail
  refine ints_any (xs := [2, 1]) (ys := [2, 1]) ((ints_own V7.out).alloc _) (vals_new w7 #[.int .i64 2, .int .i64 1] 3) (by simp [maxLen]) (by decide) _ fun k b hb => ?_
  obtain rfl : b = true := hb.2 rfl
  have h8 := (h7.below ((Below.refl _ w7).alloc (Nat.le_refl _) (.cells #[.int .i64 2, .int .i64 1] 3))).drewN k
  clear h7 hb
  go_wp2_with fail
  refine len_rec h8.re _ ?_
  have h9 := h8.bel
  clear h8
  go_wp2_with fail
  exact HQ.out _ h9
end Go.Proofs.Ytenfcppcnkfidaa
