/-
  Package recent: the state behind a *Recent, and what each method does to it.
-/
import Derived.Test.YtenfcppcnkfidaaRcP
import Derived.Test.YtenfcppcnkfidaaProg
import Derived.WalkLawsBesides
import Derived.BigRegion
import Derived.Deep.QuietTactic
import Derived.BigQuiet
import Derived.Outline
import Derived.StillTailTactics
namespace Go.Proofs.Ytenfcppcnkfidaa
open Go.RowKit Go.Maps

theorem zeroLink (w : World) : (zeroValue 45).run Try.prog w = .ok (.pointer none) w := by kernel_rfl

/-- The cells of a world, by block and place. -/
abbrev cellsOf (w : World) (b o : Nat) : Option Value := w.cell? ⟨b, o, none⟩

/-- What lies behind a *Recent at block S: the ring's root R, the map M; ns: the links' blocks with their ids, the one touched longest ago first. -/
structure Rec (w : World) (S R M n : Nat) (ns : List (Nat × Int)) : Prop where
  s0 : w.cell? ⟨S, 0, none⟩ = some (ptr R)
  s1 : w.cell? ⟨S, 1, none⟩ = some (.map (some M))
  map : ∃ f, IMap Try.prog 3 w M n ns.length f ∧ (∀ p ∈ ns, f p.2 = some (ptr p.1)) ∧ ∀ i, (∀ p ∈ ns, p.2 ≠ i) → f i = none
  path : Path (cellsOf w) R (ns.map (·.1)) R
  ids : ∀ p ∈ ns, w.cell? ⟨p.1, 0, none⟩ = some (.int .i64 p.2)
  blk : ∀ b ∈ R :: ns.map (·.1), HasBlk w b 47
  nd : (R :: ns.map (·.1)).Nodup
  ndi : (ns.map (·.2)).Nodup
  sblk : HasBlk w S 50
  sM : S ≠ M
  sb : S ∉ R :: ns.map (·.1)
  mb : M ∉ R :: ns.map (·.1)
  fits : ∀ p ∈ ns, (Lit.int .i64 p.2).wf = true

/-- Its blocks. -/
def Foot (S R M : Nat) (ns : List (Nat × Int)) (k : Nat) : Prop := k = S ∨ k = M ∨ k ∈ R :: ns.map (·.1)

section
variable {w w' : World} {S R M n : Nat} {ns : List (Nat × Int)}

theorem cell_lt {b o : Nat} {v : Value} (h : w.cell? ⟨b, o, none⟩ = some v) : b < w.heap.size := World.block_lt_of_cell? w _ h

theorem Path.lt : ∀ {r : List Nat} {a z : Nat}, Path (cellsOf w) a r z → ∀ u ∈ a :: r, u < w.heap.size
  | [], a, z, h, u, hu => by
    obtain rfl : u = a := by simpa using hu
    exact cell_lt h.1
  | b :: r, a, z, h, u, hu => by
    rcases List.mem_cons.1 hu with rfl | hu
    · exact cell_lt h.1.1
    · exact Path.lt h.2 u hu

theorem Rec.lt (h : Rec w S R M n ns) : ∀ k, Foot S R M ns k → k < w.heap.size := by
  rintro k (rfl | rfl | hk)
  · exact cell_lt h.s0
  · obtain ⟨f, hf, _⟩ := h.map
    exact hf.lt
  · exact h.path.lt k hk

theorem Rec.only {G : Nat → Prop} (h : Rec w S R M n ns) (ho : Only G w w') (hd : ∀ k, Foot S R M ns k → ¬ G k) : Rec w' S R M n ns := by
  have hc : ∀ k, Foot S R M ns k → ∀ o, w'.cell? ⟨k, o, none⟩ = w.cell? ⟨k, o, none⟩ := fun k hk o => ho.cell (h.lt k hk) (hd k hk)
  have hm : ∀ p ∈ ns, Foot S R M ns p.1 := fun p hp => .inr (.inr (List.mem_cons_of_mem _ (List.mem_map_of_mem hp)))
  obtain ⟨f, hf1, hf2⟩ := h.map
  exact ⟨(hc S (.inl rfl) 0).trans h.s0, (hc S (.inl rfl) 1).trans h.s1, ⟨f, hf1.only ho (hd M (.inr (.inl rfl))), hf2⟩,
    h.path.frame (fun u hu => hc u (.inr (.inr hu)) 2) (fun u hu => hc u (.inr (.inr (List.mem_cons_of_mem _ hu))) 1) (hc R (.inr (.inr (by simp))) 1),
    fun p hp => (hc _ (hm p hp) 0).trans (h.ids p hp), fun b hb => (h.blk b hb).only ho (hd b (.inr (.inr hb))), h.nd, h.ndi, h.sblk.only ho (hd S (.inl rfl)), h.sM, h.sb, h.mb, h.fits⟩

theorem Rec.mono (h : Rec w S R M n ns) {n' : Nat} (hn : n ≤ n') : Rec w S R M n' ns := by
  obtain ⟨f, ⟨D, ho, r⟩, hf2⟩ := h.map
  exact ⟨h.s0, h.s1, ⟨f, ⟨D, ho.mono hn, r⟩, hf2⟩, h.path, h.ids, h.blk, h.nd, h.ndi, h.sblk, h.sM, h.sb, h.mb, h.fits⟩
end

/-- What is of no type of its own is none of its blocks. -/
theorem Rec.foot_ne {w : World} {S R M n : Nat} {ns : List (Nat × Int)} (h : Rec w S R M n ns) {k : Nat} {t : TypeId} (hk : HasBlk w k t) (h1 : t ≠ 47) (h2 : t ≠ 50) : ¬ Foot S R M ns k := by
  obtain ⟨cs, hk⟩ := hk
  rintro (rfl | rfl | hm)
  · obtain ⟨cs', hs⟩ := h.sblk
    exact h2 (hk.eq_ hs).1
  · obtain ⟨f, hf, _⟩ := h.map
    exact hf.ne_blk hk rfl
  · obtain ⟨cs', hs⟩ := h.blk k hm
    exact h1 (hk.eq_ hs).1

/-! ### Drop -/

set_option maxHeartbeats 400000 in
theorem drop_link (w : World) (S M L O N n sz : Nat) (id : Int) (f : Int → Option Value) (x y : Value) (hi : (Lit.int .i64 id).wf = true)
    (c1 : w.cell? ⟨S, 1, none⟩ = some (.map (some M))) (hm : IMap Try.prog 3 w M n sz f) (hf : f id = some (ptr L))
    (lo : w.cell? ⟨L, 1, none⟩ = some (ptr O)) (ln : w.cell? ⟨L, 2, none⟩ = some (ptr N))
    (on : w.cell? ⟨O, 2, none⟩ = some x) (no : w.cell? ⟨N, 1, none⟩ = some y) (fo : w.frozen? ⟨O, 2, none⟩ = false) (fn : w.frozen? ⟨N, 1, none⟩ = false)
    (eO : M ≠ O) (eN : M ≠ N) (_sO : S ≠ O) (_sN : S ≠ N) (Q : Ending → World → Prop)
    (hQ : ∀ w', (((w.setCell ⟨O, 2, none⟩ (ptr N)).setCell ⟨N, 1, none⟩ (ptr O))).drew.mapTurned w' M →
        IMap Try.prog 3 w' M n (if (f id).isSome then sz - 1 else sz) (fun j => if j = id then none else f j) → Q (.returned (.bool true)) w') :
    Calls Try.prog 12 #[ptr S, .int .i64 id] w Q := by
  have c1' : (((w.setCell ⟨O, 2, none⟩ (ptr N)).setCell ⟨N, 1, none⟩ (ptr O))).cell? ⟨S, 1, none⟩ = some (.map (some M)) := by
    rw [World.cell?_setCell_other _ _ _ _ (by simp), World.cell?_setCell_other _ _ _ _ (by simp)]; exact c1
  have HF := Lib.hid hf
  clear hf
  have HM := Lib.hid (((hm.setCell (p := ⟨O, 2, none⟩) eO (ptr N)).setCell (p := ⟨N, 1, none⟩) eN (ptr O)).drew)
  have HM0 := Lib.hid hm
  clear hm
  go_enter Try.func12, Try.ntmps12
  go_wp2_with (first
    | (at_lookup; refine wpList_look_hit _ rfl _ _ 48 rfl 3 45 Try.underlying3 Try.underlying48 (zeroLink _) M n sz f rfl HM0.out id rfl hi _ HF.out ?_))
  go_region
  go_wp2_with (first
    | (at_delete; refine wpList_del _ rfl _ _ 48 3 rfl 45 Try.underlying3 Try.underlying48 M n sz f rfl HM.out id rfl hi ?_; intro w2 hm2 ht2))
  exact hQ _ ht2 hm2

theorem find_mid {xs ys : List (Nat × Int)} {L : Nat} {id : Int} (hn : ((xs ++ (L, id) :: ys).map (·.2)).Nodup) : ∀ p ∈ xs ++ ys, p.2 ≠ id := by
  intro p hp e
  simp only [List.map_append, List.map_cons, List.nodup_append, List.nodup_cons, List.mem_map, List.mem_cons] at hn
  rcases List.mem_append.1 hp with hp | hp
  · exact hn.2.2 p.2 ⟨p, hp, rfl⟩ id (.inl rfl) e
  · exact hn.2.1.1 ⟨p, hp, e⟩

/-- Drop of an id that is there. -/
theorem drop_in {w : World} {S R M n L : Nat} {id : Int} {xs ys : List (Nat × Int)} (h : Rec w S R M n (xs ++ (L, id) :: ys)) (Q : Ending → World → Prop)
    (hQ : ∀ w', Rec w' S R M n (xs ++ ys) → Only (Foot S R M (xs ++ (L, id) :: ys)) w w' → w'.heap.size = w.heap.size → Q (.returned (.bool true)) w') :
    Calls Try.prog 12 #[ptr S, .int .i64 id] w Q := by
  have hp := h.path
  have hnd := h.nd
  have hmb := h.mb
  have hsb := h.sb
  rw [List.map_append, List.map_cons] at hp hnd hmb hsb
  obtain ⟨p1, p2⟩ := hp.split
  have hz : R ∉ xs.map (·.1) ++ L :: ys.map (·.1) := (List.nodup_cons.1 hnd).1
  have lo := p1.last
  have ln := p2.first
  have on := p1.first
  obtain ⟨f, hm, hf1, hf2⟩ := h.map
  have hOmem : (xs.map (·.1)).getLastD R ∈ R :: (xs.map (·.1) ++ L :: ys.map (·.1)) := by
    have := getLastD_mem (xs.map (·.1)) R
    simp only [List.mem_cons, List.mem_append] at this ⊢
    rcases this with t | t
    · exact .inl t
    · exact .inr (.inl t)
  have hNmem : (ys.map (·.1)).headD R ∈ R :: (xs.map (·.1) ++ L :: ys.map (·.1)) := by
    have := headD_mem (ys.map (·.1)) R
    simp only [List.mem_cons, List.mem_append]
    rcases this with t | t
    · exact .inl t
    · exact .inr (.inr (.inr t))
  obtain ⟨x, hx⟩ : ∃ x, w.cell? ⟨(xs.map (·.1)).getLastD R, 2, none⟩ = some x := by
    have : ∀ (r : List Nat) (a z : Nat), Path (cellsOf w) a r z → ∃ x, w.cell? ⟨r.getLastD a, 2, none⟩ = some x := by
      intro r
      induction r with
      | nil => intro a z h; exact ⟨_, h.1⟩
      | cons b r ih => intro a z h; rw [List.getLastD_cons]; exact ih b z h.2
    exact this _ _ _ p1
  obtain ⟨y, hy⟩ : ∃ y, w.cell? ⟨(ys.map (·.1)).headD R, 1, none⟩ = some y := by
    cases hc : ys.map (·.1) with
    | nil => exact ⟨_, h.path.last⟩
    | cons b r => rw [hc] at p2; exact ⟨_, p2.1.2⟩
  have hfr := h.blk
  rw [List.map_append, List.map_cons] at hfr
  have hi := h.fits (L, id) (by simp)
  refine drop_link w S M L _ _ n _ id f x y hi h.s1 hm (hf1 (L, id) (by simp)) lo ln hx hy ((hfr _ hOmem).frozen 2) ((hfr _ hNmem).frozen 1) (fun e => hmb (e ▸ hOmem)) (fun e => hmb (e ▸ hNmem)) (fun e => hsb (e ▸ hOmem)) (fun e => hsb (e ▸ hNmem)) Q fun w' ht hm' => ?_
  generalize hO : (xs.map (·.1)).getLastD R = O at *
  generalize hN : (ys.map (·.1)).headD R = N at *
  have hcell : ∀ b o, w'.cell? ⟨b, o, none⟩ = ((w.setCell ⟨O, 2, none⟩ (ptr N)).setCell ⟨N, 1, none⟩ (ptr O)).cell? ⟨b, o, none⟩ := fun b o => turned_cell ht _
  have hsame : ∀ b o, (b ≠ O ∨ o ≠ 2) → (b ≠ N ∨ o ≠ 1) → w'.cell? ⟨b, o, none⟩ = w.cell? ⟨b, o, none⟩ := by
    intro b o h1 h2
    rw [hcell, World.cell?_setCell_other, World.cell?_setCell_other]
    · intro e; simp only [Addr.mk.injEq, and_true] at e; omega
    · intro e; simp only [Addr.mk.injEq, and_true] at e; omega
  have hc1 : w'.cell? ⟨O, 2, none⟩ = some (ptr N) := by
    rw [hcell, World.cell?_setCell_other _ _ _ _ (by simp)]
    exact World.cell?_setCell_same _ _ _ hx
  have hc2 : w'.cell? ⟨N, 1, none⟩ = some (ptr O) := by
    rw [hcell]
    exact World.cell?_setCell_same _ _ _ ((World.cell?_setCell_other _ _ _ _ (by simp)).trans hy)
  refine hQ w' ⟨?_, ?_, ⟨fun j => if j = id then none else f j, ?_, ?_, ?_⟩, ?_, ?_, ?_, ?_, ?_, (((h.sblk.setCell _ _).setCell _ _).drew).turned ht, h.sM, ?_, ?_, ?_⟩ ?_ (by rw [turned_size ht]; simp [World.setCell])
  · exact (hsame S 0 (.inr (by decide)) (.inr (by decide))).trans h.s0
  · exact (hsame S 1 (.inr (by decide)) (.inl (fun e => hsb (e ▸ hNmem)))).trans h.s1
  · have e : (if (f id).isSome then (xs ++ (L, id) :: ys).length - 1 else (xs ++ (L, id) :: ys).length) = (xs ++ ys).length := by
      rw [hf1 (L, id) (by simp)]; simp
    rw [← e]
    exact hm'
  · intro p hp
    show (if p.2 = id then none else f p.2) = _
    rw [if_neg (find_mid h.ndi p hp)]
    exact hf1 p (by simp only [List.mem_append, List.mem_cons] at hp ⊢; rcases hp with t | t; exact .inl t; exact .inr (.inr t))
  · intro i hi'
    show (if i = id then none else f i) = none
    by_cases e : i = id
    · rw [if_pos e]
    · rw [if_neg e]
      refine hf2 i fun p hp => ?_
      simp only [List.mem_append, List.mem_cons] at hp
      rcases hp with t | rfl | t
      · exact hi' p (by simp [t])
      · exact fun h => e h.symm
      · exact hi' p (by simp [t])
  · rw [List.map_append]
    exact Path.remove (c := cellsOf w) hp hnd hz lo ln hc1 hc2 (fun u hu => hsame u 2 (.inl hu) (.inr (by decide))) (fun u hu => hsame u 1 (.inr (by decide)) (.inl hu))
  · intro p hp
    exact (hsame p.1 0 (.inr (by decide)) (.inr (by decide))).trans (h.ids p (by simp only [List.mem_append, List.mem_cons] at hp ⊢; rcases hp with t | t; exact .inl t; exact .inr (.inr t)))
  · intro b hb
    exact ((((hfr b (by simp only [List.map_append, List.mem_append, List.mem_cons] at hb ⊢; rcases hb with t | t | t; exact .inl t; exact .inr (.inl t); exact .inr (.inr (.inr t)))).setCell _ _).setCell _ _).drew).turned ht
  · rw [List.map_append]
    simp only [List.nodup_cons, List.nodup_append, List.mem_append, List.mem_cons, not_or] at hnd ⊢
    exact ⟨⟨hnd.1.1, hnd.1.2.2⟩, hnd.2.1, hnd.2.2.1.2, fun a ha b hb => hnd.2.2.2 a ha b (.inr hb)⟩
  · have := h.ndi
    simp only [List.map_append, List.map_cons, List.nodup_append, List.nodup_cons, List.mem_cons] at this ⊢
    exact ⟨this.1, this.2.1.2, fun a ha b hb => this.2.2 a ha b (.inr hb)⟩
  · simp only [List.map_append, List.mem_append, List.mem_cons, not_or] at hsb ⊢
    exact ⟨hsb.1, hsb.2.1, hsb.2.2.2⟩
  · simp only [List.map_append, List.mem_append, List.mem_cons, not_or] at hmb ⊢
    exact ⟨hmb.1, hmb.2.1, hmb.2.2.2⟩
  · intro p hp
    exact h.fits p (by simp only [List.mem_append, List.mem_cons] at hp ⊢; rcases hp with t | t; exact .inl t; exact .inr (.inr t))
  · have hF : ∀ u, u ∈ R :: (xs.map (·.1) ++ L :: ys.map (·.1)) → Foot S R M (xs ++ (L, id) :: ys) u := fun u hu => .inr (.inr (by rw [List.map_append, List.map_cons]; exact hu))
    exact ((((Only.refl (Foot S R M (xs ++ (L, id) :: ys)) w).setCell (p := ⟨O, 2, none⟩) (.inl (hF _ hOmem)) _).setCell (p := ⟨N, 1, none⟩) (.inl (hF _ hNmem)) _).drew).turned ht (.inl (.inr (.inl rfl)))

/-- Drop of an id that is not there. -/
theorem drop_out {w : World} {S R M n : Nat} {id : Int} {ns : List (Nat × Int)} (h : Rec w S R M n ns) (hid : ∀ p ∈ ns, p.2 ≠ id) (hi : (Lit.int .i64 id).wf = true) (Q : Ending → World → Prop)
    (hQ : Q (.returned (.bool false)) w) :
    Calls Try.prog 12 #[ptr S, .int .i64 id] w Q := by
  obtain ⟨f, hm, _, hf2⟩ := h.map
  have c1 := h.s1
  have HF := Lib.hid (hf2 id hid)
  have HM0 := Lib.hid hm
  clear hm hf2 h hid
  go_enter Try.func12, Try.ntmps12
  go_wp2_with (first
    | (at_lookup; refine wpList_look_miss _ rfl _ _ 48 rfl 3 45 Try.underlying3 Try.underlying48 (zeroLink _) M n _ f rfl HM0.out id rfl hi HF.out ?_))
  exact hQ

/-- Drop of a nil Recent. -/
theorem drop_nil {w : World} {id : Int} (Q : Ending → World → Prop) (hQ : Q (.returned (.bool false)) w) :
    Calls Try.prog 12 #[.pointer none, .int .i64 id] w Q := by
  go_enter Try.func12, Try.ntmps12
  go_wp2
  exact hQ

/-! ### New -/

theorem infoLink : (Try.prog.info? 47).map (fun i => (i.zero, i.size, i.bytes)) = some (some (.agg #[.int .i64 0, .pointer none, .pointer none]), 3, 24) := by kernel_rfl

theorem new_rec {w : World} (Q : Ending → World → Prop)
    (hQ : ∀ w' S R M, Rec w' S R M 0 [] → Below w.heap.size w w' → (∀ k, Foot S R M [] k → w.heap.size ≤ k) → Q (.returned (ptr S)) w') :
    Calls Try.prog 8 #[] w Q := by
  have hmm := @run_makeMap Try.prog
  go_enter Try.func8, Try.ntmps8
  go_wp2
  have hb0 : Blk (w.alloc (.cells #[.int .i64 (-1), ptr w.heap.size, ptr w.heap.size] 47)) w.heap.size 47 #[.int .i64 (-1), ptr w.heap.size, ptr w.heap.size] := Blk.new w _ _
  generalize hw1 : w.alloc (.cells #[.int .i64 (-1), ptr w.heap.size, ptr w.heap.size] 47) = w1 at *
  have e1 : w1.heap.size = w.heap.size + 1 := by rw [← hw1]; simp
  have hm := IMap.made Try.prog 3 w1
  generalize hw2 : w1.alloc (.map #[] 0) = w2 at *
  have e2 : w2.heap.size = w.heap.size + 1 + 1 := by rw [← hw2]; simp [e1]
  rw [e1] at hm
  have hbS := Blk.new w2 50 #[ptr w.heap.size, .map (some (w.heap.size + 1))]
  rw [e2] at hbS
  have hbR : Blk (w2.alloc (.cells #[ptr w.heap.size, .map (some (w.heap.size + 1))] 50)) w.heap.size 47 #[.int .i64 (-1), ptr w.heap.size, ptr w.heap.size] := by
    rw [← hw2]; exact (hb0.alloc _).alloc _
  refine hQ _ _ w.heap.size (w.heap.size + 1) ⟨hbS.cell 0, hbS.cell 1, ⟨_, hm.alloc _, by simp, fun _ _ => rfl⟩, ⟨hbR.cell 2, hbR.cell 1⟩, by simp, fun b hb => ?_, by simp, by simp, ⟨_, hbS⟩, by omega, by simp; omega, by simp, by simp⟩ ?_ ?_
  · obtain rfl : b = w.heap.size := by simpa using hb
    exact ⟨_, hbR⟩
  · rw [← hw2, ← hw1]
    exact (((Below.refl _ w).alloc (Nat.le_refl _) _).alloc (by simp) _).alloc (by simp; omega) _
  · rintro k (rfl | rfl | hk)
    · omega
    · omega
    · obtain rfl : k = w.heap.size := by simpa using hk
      exact Nat.le_refl _

/-! ### who is behind -/

theorem link_eql {w : World} {a b : Nat} (ha : HasBlk w a 47) (hb : HasBlk w b 47) : (binOp .eql 45 (ptr a) (ptr b)).run Try.prog w = .ok (.bool (a == b)) w := by
  obtain ⟨ca, ha⟩ := ha
  obtain ⟨cb, hb⟩ := hb
  obtain ⟨j, hj, _, hs, _⟩ := info_parts infoLink
  exact run_ptr_eql w Try.underlying45 hj (by omega) ha hb

theorem link_neq {w : World} {a b : Nat} (ha : HasBlk w a 47) (hb : HasBlk w b 47) : (binOp .neq 45 (ptr a) (ptr b)).run Try.prog w = .ok (.bool (a != b)) w := by
  obtain ⟨ca, ha⟩ := ha
  obtain ⟨cb, hb⟩ := hb
  obtain ⟨j, hj, _, hs, _⟩ := info_parts infoLink
  exact run_ptr_neq w Try.underlying45 hj (by omega) ha hb

theorem behind_last {w : World} {S R L : Nat} (s0 : w.cell? ⟨S, 0, none⟩ = some (ptr R)) (l2 : w.cell? ⟨L, 2, none⟩ = some (ptr R)) (hR : HasBlk w R 47) (Q : Ending → World → Prop)
    (hQ : Q (.returned (.tuple #[.int .i64 0, .bool false])) w.drew) :
    Calls Try.prog 22 #[ptr S, ptr L] w Q := by
  have hq := link_eql hR.drew hR.drew
  simp only [beq_self_eq_true] at hq
  go_enter Try.func22, Try.ntmps22
  go_wp2
  go_region
  go_wp2
  exact hQ

theorem behind_more {w : World} {S R L N : Nat} {id : Int} (s0 : w.cell? ⟨S, 0, none⟩ = some (ptr R)) (l2 : w.cell? ⟨L, 2, none⟩ = some (ptr N)) (n0 : w.cell? ⟨N, 0, none⟩ = some (.int .i64 id)) (hR : HasBlk w R 47) (hN : HasBlk w N 47) (hne : N ≠ R)
    (Q : Ending → World → Prop) (hQ : Q (.returned (.tuple #[.int .i64 id, .bool true])) w.drew) :
    Calls Try.prog 22 #[ptr S, ptr L] w Q := by
  have hq := link_eql hN.drew hR.drew
  rw [beq_eq_false_iff_ne.2 hne] at hq
  go_enter Try.func22, Try.ntmps22
  go_wp2
  go_region
  go_wp2
  exact hQ

/-! ### Drop, whatever the id; Touch -/

def rest (id : Int) (ns : List (Nat × Int)) : List (Nat × Int) := ns.filter fun p => !(p.2 == id)

theorem rest_out {id : Int} {ns : List (Nat × Int)} (h : ∀ p ∈ ns, p.2 ≠ id) : rest id ns = ns := by
  unfold rest
  rw [List.filter_eq_self]
  intro p hp
  simpa using h p hp

theorem rest_mid {L : Nat} {id : Int} {xs ys : List (Nat × Int)} (hn : ((xs ++ (L, id) :: ys).map (·.2)).Nodup) : rest id (xs ++ (L, id) :: ys) = xs ++ ys := by
  have h := find_mid hn
  have h1 := rest_out (id := id) (ns := xs) fun p hp => h p (by simp [hp])
  have h2 := rest_out (id := id) (ns := ys) fun p hp => h p (by simp [hp])
  unfold rest at *
  rw [List.filter_append, List.filter_cons, h1, h2]
  simp

theorem drop_rec {w : World} {S R M n : Nat} {id : Int} {ns : List (Nat × Int)} (h : Rec w S R M n ns) (hi : (Lit.int .i64 id).wf = true) (Q : Ending → World → Prop)
    (hQ : ∀ w', Rec w' S R M n (rest id ns) → Only (Foot S R M ns) w w' → w'.heap.size = w.heap.size → Q (.returned (.bool (ns.any (·.2 == id)))) w') :
    Calls Try.prog 12 #[ptr S, .int .i64 id] w Q := by
  by_cases hx : ∃ p ∈ ns, p.2 = id
  · obtain ⟨⟨L, id'⟩, hp, e⟩ := hx
    obtain rfl : id' = id := e
    obtain ⟨xs, ys, rfl⟩ := List.append_of_mem hp
    have e := rest_mid h.ndi
    refine drop_in h Q fun w' h' ho hz => ?_
    have := hQ w' (by rw [e]; exact h') ho hz
    simpa using this
  · have hx' : ∀ p ∈ ns, p.2 ≠ id := fun p hp e => hx ⟨p, hp, e⟩
    refine drop_out h hx' hi Q ?_
    have := hQ w (by rw [rest_out hx']; exact h) (Only.refl _ _) rfl
    have e : (ns.any (·.2 == id)) = false := by
      rw [List.any_eq_false]
      intro p hp
      simpa using hx' p hp
    rw [e] at this
    exact this

theorem touch_bad {w : World} {v : Value} {id : Int} (hv : v = .pointer none ∨ (∃ S, v = ptr S) ∧ id < 0) (Q : Ending → World → Prop) (hQ : Q (.returned (.int .i64 1)) w) :
    Calls Try.prog 10 #[v, .int .i64 id] w Q := by
  rcases hv with rfl | ⟨⟨S, rfl⟩, h⟩
  · go_enter Try.func10, Try.ntmps10
    go_wp2
    exact hQ
  · go_enter Try.func10, Try.ntmps10
    go_wp2
    exact hQ

theorem touch_end {w1 w2 : World} {S R M n O : Nat} {id : Int} {rs : List (Nat × Int)} {f : Int → Option Value} (h : Rec w1 S R M n rs) (hid : ∀ p ∈ rs, p.2 ≠ id) (hi : (Lit.int .i64 id).wf = true) (hO : (rs.map (·.1)).getLastD R = O)
    (hf : (∀ p ∈ rs, f p.2 = some (ptr p.1)) ∧ ∀ i, (∀ p ∈ rs, p.2 ≠ i) → f i = none)
    (hm : IMap Try.prog 3 w2 M (n + 1) (if (f id).isSome then rs.length else rs.length + 1) (fun j => if j = id then some (ptr w1.heap.size) else f j))
    (ht : (((w1.setCell ⟨O, 2, none⟩ (ptr w1.heap.size)).setCell ⟨R, 1, none⟩ (ptr w1.heap.size)).alloc (.cells #[.int .i64 id, ptr O, ptr R] 47)).drew.drew.mapTurned w2 M) :
    Rec w2 S R M (n + 1) (rs ++ [(w1.heap.size, id)]) := by
  have hlt := h.path.lt
  have hOm : O ∈ R :: rs.map (·.1) := by rw [← hO]; exact getLastD_mem _ _
  have hnew : w1.heap.size ∉ R :: rs.map (·.1) := fun hh => Nat.lt_irrefl _ (hlt _ hh)
  have hsz : ((w1.setCell ⟨O, 2, none⟩ (ptr w1.heap.size)).setCell ⟨R, 1, none⟩ (ptr w1.heap.size)).heap.size = w1.heap.size := by simp [World.setCell]
  have hsame : ∀ b o, b < w1.heap.size → (b ≠ O ∨ o ≠ 2) → (b ≠ R ∨ o ≠ 1) → w2.cell? ⟨b, o, none⟩ = w1.cell? ⟨b, o, none⟩ := by
    intro b o hb h1 h2
    rw [turned_cell ht]
    show ((((w1.setCell ⟨O, 2, none⟩ (ptr w1.heap.size)).setCell ⟨R, 1, none⟩ (ptr w1.heap.size)).alloc _)).cell? _ = _
    rw [World.cell?_alloc_lt _ _ _ (by rw [hsz]; exact hb), World.cell?_setCell_other, World.cell?_setCell_other]
    · intro e; simp only [Addr.mk.injEq, and_true] at e; omega
    · intro e; simp only [Addr.mk.injEq, and_true] at e; omega
  have hfresh : ∀ i, w2.cell? ⟨w1.heap.size, i, none⟩ = (#[.int .i64 id, ptr O, ptr R] : Array Value)[i]? := by
    intro i
    have hb := Blk.new ((w1.setCell ⟨O, 2, none⟩ (ptr w1.heap.size)).setCell ⟨R, 1, none⟩ (ptr w1.heap.size)) 47 #[.int .i64 id, ptr O, ptr R]
    rw [hsz] at hb
    rw [turned_cell ht]
    exact hb.cell i
  have hR1 : w2.cell? ⟨R, 1, none⟩ = some (ptr w1.heap.size) := by
    rw [turned_cell ht]
    show ((((w1.setCell ⟨O, 2, none⟩ (ptr w1.heap.size)).setCell ⟨R, 1, none⟩ (ptr w1.heap.size)).alloc _)).cell? _ = _
    rw [World.cell?_alloc_lt _ _ _ (by rw [hsz]; exact hlt R (by simp))]
    exact World.cell?_setCell_same _ _ _ ((World.cell?_setCell_other _ _ _ _ (by simp)).trans h.path.last)
  have hO2 : w2.cell? ⟨O, 2, none⟩ = some (ptr w1.heap.size) := by
    rw [turned_cell ht]
    show ((((w1.setCell ⟨O, 2, none⟩ (ptr w1.heap.size)).setCell ⟨R, 1, none⟩ (ptr w1.heap.size)).alloc _)).cell? _ = _
    rw [World.cell?_alloc_lt _ _ _ (by rw [hsz]; exact hlt O hOm), World.cell?_setCell_other _ _ _ _ (by simp)]
    have : ∀ (r : List Nat) (a z : Nat), Path (cellsOf w1) a r z → ∃ x, w1.cell? ⟨r.getLastD a, 2, none⟩ = some x := by
      intro r
      induction r with
      | nil => intro a z h; exact ⟨_, h.1⟩
      | cons b r ih => intro a z h; rw [List.getLastD_cons]; exact ih b z h.2
    obtain ⟨x, hx⟩ := this _ _ _ h.path
    rw [hO] at hx
    exact World.cell?_setCell_same _ _ _ hx
  have hblk : ∀ b t, HasBlk w1 b t → HasBlk w2 b t := fun b t hb => (((hb.setCell _ _).setCell _ _).alloc _).drew.drew.turned ht
  have hfid : f id = none := hf.2 id hid
  have hRR : ∀ u ∈ rs.map (·.1), u ≠ R := fun u hu e => (List.nodup_cons.1 h.nd).1 (e ▸ hu)
  refine ⟨?_, ?_, ⟨fun j => if j = id then some (ptr w1.heap.size) else f j, ?_, ?_, ?_⟩, ?_, ?_, ?_, ?_, ?_, hblk S _ h.sblk, h.sM, ?_, ?_, ?_⟩
  · exact (hsame S 0 (cell_lt h.s0) (.inr (by decide)) (.inr (by decide))).trans h.s0
  · exact (hsame S 1 (cell_lt h.s1) (.inr (by decide)) (.inl (fun e => h.sb (by simp [e])))).trans h.s1
  · rw [hfid] at hm
    simpa using hm
  · intro p hp
    show (if p.2 = id then some (ptr w1.heap.size) else f p.2) = _
    rcases List.mem_append.1 hp with hp | hp
    · rw [if_neg (hid p hp)]; exact hf.1 p hp
    · obtain rfl : p = (w1.heap.size, id) := by simpa using hp
      rw [if_pos rfl]
  · intro i hi'
    show (if i = id then some (ptr w1.heap.size) else f i) = none
    rw [if_neg (fun e => hi' (w1.heap.size, id) (by simp) e.symm)]
    exact hf.2 i fun p hp => hi' p (by simp [hp])
  · rw [List.map_append]
    exact Path.insert (c := cellsOf w1) h.path h.nd (List.nodup_cons.1 h.nd).1 hnew (fun e => hnew (List.mem_cons.2 (.inl e))) hO.symm hO2 (hfresh 1) (hfresh 2) hR1
      (fun u hu hne => hsame u 2 (hlt u hu) (.inl hne) (.inr (by decide))) (fun u hu => hsame u 1 (hlt u (List.mem_cons_of_mem _ hu)) (.inr (by decide)) (.inl (hRR u hu)))
  · intro p hp
    rcases List.mem_append.1 hp with hp | hp
    · exact (hsame p.1 0 (hlt _ (List.mem_cons_of_mem _ (List.mem_map_of_mem hp))) (.inr (by decide)) (.inr (by decide))).trans (h.ids p hp)
    · obtain rfl : p = (w1.heap.size, id) := by simpa using hp
      exact hfresh 0
  · intro b hb
    rw [List.map_append, ← List.cons_append] at hb
    rcases List.mem_append.1 hb with hb | hb
    · exact hblk b _ (h.blk b hb)
    · obtain rfl : b = w1.heap.size := by simpa using hb
      refine HasBlk.turned ?_ ht
      refine ⟨#[.int .i64 id, ptr O, ptr R], ?_⟩
      have := Blk.new ((w1.setCell ⟨O, 2, none⟩ (ptr w1.heap.size)).setCell ⟨R, 1, none⟩ (ptr w1.heap.size)) 47 #[.int .i64 id, ptr O, ptr R]
      rw [hsz] at this
      exact this
  · rw [List.map_append, ← List.cons_append, List.nodup_append]
    refine ⟨h.nd, by simp, fun a ha b hb e => hnew ?_⟩
    obtain rfl : b = w1.heap.size := by simpa using hb
    exact e ▸ ha
  · rw [List.map_append, List.nodup_append]
    refine ⟨h.ndi, by simp, fun a ha b hb e => ?_⟩
    obtain rfl : b = id := by simpa using hb
    obtain ⟨p, hp, e'⟩ := List.mem_map.1 ha
    exact hid p hp (e'.trans e)
  · rw [List.map_append, ← List.cons_append, List.mem_append, not_or]
    exact ⟨h.sb, fun hh => by have := cell_lt h.s0; simp at hh; omega⟩
  · rw [List.map_append, ← List.cons_append, List.mem_append, not_or]
    obtain ⟨f', hf', _⟩ := h.map
    exact ⟨h.mb, fun hh => by have := hf'.lt; simp at hh; omega⟩
  · intro p hp
    rcases List.mem_append.1 hp with hp | hp
    · exact h.fits p hp
    · obtain rfl : p = (w1.heap.size, id) := by simpa using hp
      exact hi

set_option maxHeartbeats 400000 in
theorem touch_rec {w : World} {S R M n : Nat} {id : Int} {ns : List (Nat × Int)} (h : Rec w S R M n ns) (hi : (Lit.int .i64 id).wf = true) (h0 : 0 ≤ id) (hn : n < maxLen) (Q : Ending → World → Prop)
    (hQ : ∀ w' L, w.heap.size ≤ L → Rec w' S R M (n + 1) (rest id ns ++ [(L, id)]) → Only (Foot S R M ns) w w' → Q (.returned (.int .i64 0)) w') :
    Calls Try.prog 10 #[ptr S, .int .i64 id] w Q := by
  go_enter Try.func10, Try.ntmps10
  go_wp2_with fail
  refine drop_rec h hi _ fun w1 h1 o1 z1 => ?_
  have hid : ∀ p ∈ rest id ns, p.2 ≠ id := fun p hp => by
    have := (List.mem_filter.1 hp).2
    simpa using this
  generalize hr : rest id ns = rs at *
  have HR := Lib.hid hr
  have HZ := Lib.hid z1
  clear hr h z1
  have s0 := h1.s0
  have s1 := h1.s1
  have hS := cell_lt s0
  have on := h1.path.last
  generalize hO : (rs.map (·.1)).getLastD R = O at *
  have HO := Lib.hid hO
  clear hO
  have hOm : O ∈ R :: rs.map (·.1) := by rw [← HO.out]; exact getLastD_mem _ _
  obtain ⟨cO, hcO⟩ := h1.blk O hOm
  obtain ⟨cR, hcR⟩ := h1.blk R (by simp)
  have hO' := hcO.lt
  have hR' := hcR.lt
  have fO := hcO.frozen 2
  have fR := hcR.frozen 1
  obtain ⟨x, hx⟩ : ∃ x, w1.cell? ⟨O, 2, none⟩ = some x := by
    have : ∀ (r : List Nat) (a z : Nat), Path (cellsOf w1) a r z → ∃ x, w1.cell? ⟨r.getLastD a, 2, none⟩ = some x := by
      intro r
      induction r with
      | nil => intro a z h; exact ⟨_, h.1⟩
      | cons b r ih => intro a z h; rw [List.getLastD_cons]; exact ih b z h.2
    rw [← HO.out]
    exact this _ _ _ h1.path
  have sR : S ≠ R := fun e => h1.sb (by rw [e]; simp)
  have sO : S ≠ O := fun e => h1.sb (by rw [e]; exact hOm)
  have mR : M ≠ R := fun e => h1.mb (by rw [e]; simp)
  have mO : M ≠ O := fun e => h1.mb (by rw [e]; exact hOm)
  obtain ⟨f, hm, hf1, hf2⟩ := h1.map
  have HM := Lib.hid (((hm.setCell (p := ⟨O, 2, none⟩) mO (ptr w1.heap.size)).setCell (p := ⟨R, 1, none⟩) mR (ptr w1.heap.size)).alloc (.cells #[.int .i64 id, ptr O, ptr R] 47)).drew.drew
  have HF := Lib.hid (And.intro hf1 hf2)
  have HH := Lib.hid h1
  have HI := Lib.hid hid
  have HC := Lib.hid (And.intro hcO hcR)
  have HOm := Lib.hid hOm
  have ho1 := Lib.hid o1
  clear h1 hid hcO hcR hOm hm hf1 hf2 o1
  have on' : w1.cell? ⟨R, 1, none⟩ = some (ptr O) := on
  clear on
  go_wp2_with fail
  go_region
  go_wp2_with fail
  go_region
  go_wp2_with (first
    | (at_mapUpdate; refine wpList_put _ rfl _ _ _ 48 rfl 3 45 Try.underlying3 Try.underlying48 M n _ f rfl HM.out hn id _ rfl rfl hi ?_; intro w2 hm2 ht2))
  refine hQ w2 w1.heap.size (by have := HZ.out; omega) (touch_end HH.out HI.out hi HO.out HF.out hm2 ht2) ?_
  have hF : ∀ u, u ∈ R :: rs.map (·.1) → Foot S R M ns u := by
    intro u hu
    refine .inr (.inr ?_)
    rw [← HR.out] at hu
    simp only [List.mem_cons, rest, List.mem_map, List.mem_filter] at hu ⊢
    rcases hu with hu | ⟨p, hp, e⟩
    · exact .inl hu
    · exact .inr ⟨p, hp.1, e⟩
  exact (((((ho1.out.setCell (p := ⟨O, 2, none⟩) (.inl (hF O HOm.out)) _).setCell (p := ⟨R, 1, none⟩) (.inl (hF R (by simp))) _).alloc _).drew).drew).turned ht2 (.inl (.inr (.inl rfl)))

/-! ### Oldest, Newer, Len -/

/-- The first of a list of ids (0 where there is none), and whether there is one. -/
def hd (xs : List Int) : Int := xs.headD 0
def more (xs : List Int) : Bool := !xs.isEmpty

theorem behind_rec {w : World} {S R M n L : Nat} {xs ys : List (Nat × Int)} (h : Rec w S R M n (xs ++ ys)) (hL : L = (xs.map (·.1)).getLastD R) (Q : Ending → World → Prop)
    (hQ : Q (.returned (.tuple #[.int .i64 (hd (ys.map (·.2))), .bool (more (ys.map (·.2)))])) w.drew) :
    Calls Try.prog 22 #[ptr S, ptr L] w Q := by
  subst hL
  have hp := h.path
  rw [List.map_append] at hp
  have key : ∀ (r : List Nat) (a : Nat) (t : List Nat), Path (cellsOf w) a (r ++ t) R → w.cell? ⟨r.getLastD a, 2, none⟩ = some (ptr (t.headD R)) := by
    intro r
    induction r with
    | nil => intro a t h; exact h.first
    | cons b r ih => intro a t h; rw [List.getLastD_cons]; exact ih b t h.2
  have l2 := key _ _ _ hp
  cases ys with
  | nil => exact behind_last h.s0 l2 (h.blk R (by simp)) Q hQ
  | cons y r =>
    obtain ⟨N, id⟩ := y
    have hN : (N, id) ∈ xs ++ (N, id) :: r := by simp
    refine behind_more (N := N) h.s0 l2 (h.ids _ hN) (h.blk R (by simp)) (h.blk N (List.mem_cons_of_mem _ (List.mem_map_of_mem hN))) (fun e => ?_) Q hQ
    have := (List.nodup_cons.1 h.nd).1
    exact this (by rw [← e]; exact List.mem_map_of_mem hN)

theorem oldest_rec {w : World} {S R M n : Nat} {ns : List (Nat × Int)} (h : Rec w S R M n ns) (Q : Ending → World → Prop)
    (hQ : Q (.returned (.tuple #[.int .i64 (hd (ns.map (·.2))), .bool (more (ns.map (·.2)))])) w.drew) :
    Calls Try.prog 14 #[ptr S] w Q := by
  have s0 := h.s0
  have hc := Lib.hid (behind_rec (xs := []) (ys := ns) (L := R) h rfl)
  clear h
  go_enter Try.func14, Try.ntmps14
  go_wp2_with fail
  refine hc.out _ ?_
  go_wp2_with fail
  exact hQ

theorem oldest_nil {w : World} (Q : Ending → World → Prop) (hQ : Q (.returned (.tuple #[.int .i64 0, .bool false])) w) :
    Calls Try.prog 14 #[.pointer none] w Q := by
  go_enter Try.func14, Try.ntmps14
  go_wp2_with fail
  exact hQ

/-- The ids behind one. -/
def behindIds (id : Int) : List Int → List Int
  | [] => []
  | x :: r => if x = id then r else behindIds id r

theorem behindIds_mid : ∀ {xs ys : List Int} {id : Int}, id ∉ xs → behindIds id (xs ++ id :: ys) = ys
  | [], ys, id, _ => by simp [behindIds]
  | x :: xs, ys, id, h => by
    simp only [List.mem_cons, not_or] at h
    rw [List.cons_append, behindIds, if_neg (fun e => h.1 e.symm)]
    exact behindIds_mid h.2

theorem behindIds_out : ∀ {xs : List Int} {id : Int}, id ∉ xs → behindIds id xs = []
  | [], _, _ => rfl
  | x :: xs, id, h => by
    simp only [List.mem_cons, not_or] at h
    rw [behindIds, if_neg (fun e => h.1 e.symm)]
    exact behindIds_out h.2

theorem newer_in {w : World} {S R M n L : Nat} {id : Int} {xs ys : List (Nat × Int)} (h : Rec w S R M n (xs ++ (L, id) :: ys)) (Q : Ending → World → Prop)
    (hQ : Q (.returned (.tuple #[.int .i64 (hd (ys.map (·.2))), .bool (more (ys.map (·.2)))])) w.drew) :
    Calls Try.prog 16 #[ptr S, .int .i64 id] w Q := by
  have s1 := h.s1
  obtain ⟨f, hm, hf1, _⟩ := h.map
  have hi := h.fits (L, id) (by simp)
  have HF := Lib.hid (hf1 (L, id) (by simp))
  have HM := Lib.hid hm
  have h' : Rec w S R M n ((xs ++ [(L, id)]) ++ ys) := by simpa using h
  have hc := Lib.hid (behind_rec (xs := xs ++ [(L, id)]) (ys := ys) (L := L) h' (by simp))
  clear h h' hm hf1
  go_enter Try.func16, Try.ntmps16
  go_wp2_with (first
    | (at_lookup; refine wpList_look_hit _ rfl _ _ 48 rfl 3 45 Try.underlying3 Try.underlying48 (zeroLink _) M n _ f rfl HM.out id rfl hi _ HF.out ?_))
  refine hc.out _ ?_
  go_wp2_with fail
  exact hQ

theorem newer_out {w : World} {S R M n : Nat} {id : Int} {ns : List (Nat × Int)} (h : Rec w S R M n ns) (hid : ∀ p ∈ ns, p.2 ≠ id) (hi : (Lit.int .i64 id).wf = true) (Q : Ending → World → Prop)
    (hQ : Q (.returned (.tuple #[.int .i64 0, .bool false])) w) :
    Calls Try.prog 16 #[ptr S, .int .i64 id] w Q := by
  obtain ⟨f, hm, _, hf2⟩ := h.map
  have c1 := h.s1
  have HF := Lib.hid (hf2 id hid)
  have HM0 := Lib.hid hm
  clear hm hf2 h hid
  go_enter Try.func16, Try.ntmps16
  go_wp2_with (first
    | (at_lookup; refine wpList_look_miss _ rfl _ _ 48 rfl 3 45 Try.underlying3 Try.underlying48 (zeroLink _) M n _ f rfl HM0.out id rfl hi HF.out ?_))
  exact hQ

theorem newer_rec {w : World} {S R M n : Nat} {id : Int} {ns : List (Nat × Int)} (h : Rec w S R M n ns) (hi : (Lit.int .i64 id).wf = true) (Q : Ending → World → Prop)
    (hQ : ∀ m, Q (.returned (.tuple #[.int .i64 (hd (behindIds id (ns.map (·.2)))), .bool (more (behindIds id (ns.map (·.2))))])) (w.drewN m)) :
    Calls Try.prog 16 #[ptr S, .int .i64 id] w Q := by
  by_cases hx : ∃ p ∈ ns, p.2 = id
  · obtain ⟨⟨L, id'⟩, hp, e⟩ := hx
    obtain rfl : id' = id := e
    obtain ⟨xs, ys, rfl⟩ := List.append_of_mem hp
    refine newer_in h Q ?_
    have hn : id' ∉ xs.map (·.2) := fun hh => by
      obtain ⟨p, hp, e⟩ := List.mem_map.1 hh
      exact find_mid h.ndi p (by simp [hp]) e
    have := hQ 1
    rw [List.map_append, List.map_cons, behindIds_mid hn] at this
    exact this
  · have hx' : ∀ p ∈ ns, p.2 ≠ id := fun p hp e => hx ⟨p, hp, e⟩
    refine newer_out h hx' hi Q ?_
    have := hQ 0
    rw [behindIds_out (fun hh => by obtain ⟨p, hp, e⟩ := List.mem_map.1 hh; exact hx' p hp e)] at this
    exact this

theorem newer_nil {w : World} {id : Int} (Q : Ending → World → Prop) (hQ : Q (.returned (.tuple #[.int .i64 0, .bool false])) w) :
    Calls Try.prog 16 #[.pointer none, .int .i64 id] w Q := by
  go_enter Try.func16, Try.ntmps16
  go_wp2_with fail
  exact hQ

theorem len_rec {w : World} {S R M n : Nat} {ns : List (Nat × Int)} (h : Rec w S R M n ns) (Q : Ending → World → Prop) (hQ : Q (.returned (.int .i64 (ns.length : Int))) w) :
    Calls Try.prog 18 #[ptr S] w Q := by
  obtain ⟨f, hm, _, _⟩ := h.map
  have c1 := h.s1
  have HM0 := Lib.hid hm
  generalize ns.length = k at *
  clear hm h
  go_enter Try.func18, Try.ntmps18
  go_wp2_with (first
    | (at_len; refine wpList_maplen _ rfl _ 48 rfl 3 45 Try.underlying48 M n _ f rfl HM0.out ?_))
  exact hQ

theorem len_nil {w : World} (Q : Ending → World → Prop) (hQ : Q (.returned (.int .i64 0)) w) :
    Calls Try.prog 18 #[.pointer none] w Q := by
  go_enter Try.func18, Try.ntmps18
  go_wp2_with fail
  exact hQ

end Go.Proofs.Ytenfcppcnkfidaa
