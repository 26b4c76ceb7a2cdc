/-
  A wheel of one's own, by the ids of its rows: each method's contract; the document's likewise.
-/
import Derived.Test.YtbhhbddmokddeaaWsM
namespace Go.Proofs.Ytbhhbddmokddeaa
open Go.RowKit Go.Maps

/-- A wheel made since w0, its rows' ids L. -/
def Wh (w0 w : World) (S M n : Nat) (L : Nat → List Int) : Prop := ∃ K rows, Mine w0 w S M K n rows ∧ ∀ t, ids (rows t) = L t

/-- A slice's ints, in a block of ints. -/
def IsRow (w : World) (A : Option Addr) (n : Nat) (xs : List Int) : Prop := IsInts w A n xs ∧ (0 < n → ∀ b o, A = some ⟨b, o, none⟩ → HasBlk w b 3)

theorem IsRow.only {w w' : World} {A : Option Addr} {n : Nat} {xs : List Int} {G : Nat → Prop} (h : IsRow w A n xs) (ho : Only G w w') (hG : ∀ b, HasBlk w b 3 → ¬ G b) : IsRow w' A n xs := by
  obtain ⟨h1, h2⟩ := h
  refine ⟨⟨h1.1, fun hn => ?_⟩, fun hn b o e => (h2 hn b o e).only ho (hG b (h2 hn b o e))⟩
  obtain ⟨b, o, e, hl, hc⟩ := h1.2 hn
  exact ⟨b, o, e, Nat.lt_of_lt_of_le hl ho.size, fun j u hj => (ho.cell (p := ⟨b, _, none⟩) hl (hG b (h2 hn b o e))).trans (hc j u hj)⟩

theorem IsRow.below {w w' : World} {A : Option Addr} {n : Nat} {xs : List Int} (h : IsRow w A n xs) (hb : Below w.heap.size w w') : IsRow w' A n xs := h.only (G := fun _ => False) (Only.ofBelow hb) fun _ _ => id

/-- The blocks that a wheel may write. -/
def Own (w : World) (M k : Nat) : Prop := k = M ∨ HasBlk w k 59 ∨ HasBlk w k 56 ∨ HasBlk w k 34

section
variable {w0 w w' : World} {S M K n : Nat} {rows : Nat → List Nd} {L : Nat → List Int}

theorem Whl.own {mv : Nat} (h : Whl w S M K n rows mv) : ∀ k, Foot S M K rows k → Own w M k := by
  rintro k (rfl | rfl | rfl | ⟨s, hs, p, hp, rfl⟩)
  · exact .inr (.inr (.inl h.sblk))
  · exact .inl rfl
  · exact .inr (.inr (.inr h.row.hasBlk))
  · exact .inr (.inl (h.blk s hs p hp))

theorem Wh.bel (h : Wh w0 w S M n L) : Below w0.heap.size w0 w := by obtain ⟨_, _, h, _⟩ := h; exact h.bel
theorem Wh.below (h : Wh w0 w S M n L) (hb : Below w.heap.size w w') : Wh w0 w' S M n L := by obtain ⟨K, rows, h, e⟩ := h; exact ⟨K, rows, h.below hb, e⟩
theorem Wh.drew (h : Wh w0 w S M n L) : Wh w0 w.drew S M n L := h.below ⟨rfl, rfl, rfl, Nat.le_refl _, fun _ _ => rfl⟩
theorem Wh.drewN (h : Wh w0 w S M n L) (q : Nat) : Wh w0 (w.drewN q) S M n L := h.below ⟨rfl, rfl, rfl, Nat.le_refl _, fun _ _ => rfl⟩

theorem Wh.lt (h : Wh w0 w S M n L) : M < w.heap.size := by
  obtain ⟨K, rows, h, _⟩ := h
  obtain ⟨f, hf, _⟩ := h.st.map
  exact hf.lt

/-- A block of another type is none of a wheel's own. -/
theorem Wh.other (h : Wh w0 w S M n L) {k : Nat} {t : TypeId} (hk : HasBlk w k t) (h1 : t ≠ 59) (h2 : t ≠ 56) (h3 : t ≠ 34) : ¬ Own w M k := by
  obtain ⟨K, rows, h, _⟩ := h
  rintro (rfl | h' | h' | h')
  · obtain ⟨f, hf, _⟩ := h.st.map
    obtain ⟨_, hk⟩ := hk
    exact hf.ne_blk hk rfl
  · exact hk.ne h' h1 rfl
  · exact hk.ne h' h2 rfl
  · exact hk.ne h' h3 rfl

/-- Nor is another map. -/
theorem Wh.map_ne {G m sz : Nat} {k : TypeId} {f : Int → Option Value} (hm : IMap Try.prog k w G m sz f) (hne : G ≠ M) : ¬ Own w M G := by
  rintro (e | ⟨_, h'⟩ | ⟨_, h'⟩ | ⟨_, h'⟩)
  · exact hne e
  · exact hm.ne_blk h' rfl
  · exact hm.ne_blk h' rfl
  · exact hm.ne_blk h' rfl

theorem Wh.only (h : Wh w0 w S M n L) {G : Nat → Prop} (ho : Only G w w') (hd : ∀ k, Own w M k → ¬ G k) (hg : ∀ k, G k → w0.heap.size ≤ k) : Wh w0 w' S M n L := by
  obtain ⟨K, rows, h, e⟩ := h
  exact ⟨K, rows, ⟨h.st.only ho fun k hk => hd k (h.st.own k hk), h.bel.trans (ho.below hg h.bel.size), h.new⟩, e⟩

theorem Wh.good (h : Wh w0 w S M n L) : Good L := by
  obtain ⟨K, rows, h, e⟩ := h
  obtain rfl : L = fun t => ids (rows t) := funext fun t => (e t).symm
  exact good_ids h.st.ok h.st.fits

theorem Wh.lenL (h : Wh w0 w S M n L) : lenL L ≤ n := by
  obtain ⟨K, rows, h, e⟩ := h
  obtain rfl : L = fun t => ids (rows t) := funext fun t => (e t).symm
  obtain ⟨f, hf, _⟩ := h.st.map
  have := hf.size_le
  rwa [lenL_ids] at this

theorem Wh.len (h : Wh w0 w S M n L) {s : Nat} (hs : s < 64) : (L s).length ≤ n := Nat.le_trans (len_le_lenL L hs) h.lenL
end

section
variable {w0 w : World} {S M n : Nat} {L : Nat → List Int}

def errI (s id : Int) : Int := if okA s id then 0 else 1

theorem new_wh {w0 : World} (Q : Ending → World → Prop) (hQ : ∀ w' S M, Wh w0 w' S M 0 (fun _ => []) → Q (.returned (ptr S)) w') : Calls Try.prog 8 #[] w0 Q :=
  new_mine Q fun w' S M K h => hQ w' S M ⟨K, _, h, fun _ => rfl⟩

theorem add_wh (h : Wh w0 w S M n L) {s id : Int} (hn : n < 100000) (Q : Ending → World → Prop)
    (hQ : ∀ w', Wh w0 w' S M (if okA s id then n + 1 else n) (putL L s id) → Only (Own w M) w w' → Q (.returned (.int .i64 (errI s id))) w') :
    Calls Try.prog 15 #[ptr S, .int .i64 s, .int .i64 id] w Q := by
  cases hok : okA s id with
  | false =>
    have := hQ w
    rw [putL, errI, hok] at this
    exact add_bad hok Q (this h (Only.refl _ _))
  | true =>
    have hc := hok
    simp only [okA, decide_eq_true_eq] at hc
    obtain ⟨K, rows, h, e⟩ := h
    refine add_mine h (s := s.toNat) (by omega) (by omega) (by omega) (by omega) hn Q fun w' K' g h' ho => ?_
    have := hQ w'
    rw [putL, errI, hok] at this
    refine this ⟨K', _, h', fun t => ?_⟩ (ho.mono h.st.own)
    rw [if_pos rfl, ids_upd]
    obtain rfl : L = fun t => ids (rows t) := funext fun t => (e t).symm
    have e2 : (fun t => ids (without rows id t)) = offL (fun t => ids (rows t)) id := funext fun t => ids_without rows id t
    rw [e2]
    congr 1
    unfold ids
    rw [List.map_append]
    show ids (without rows id s.toNat) ++ [id] = _
    rw [ids_without]
    rfl

theorem drop_wh (h : Wh w0 w S M n L) {id : Int} (hi : (Lit.int .i64 id).wf = true) (Q : Ending → World → Prop)
    (hQ : ∀ w', Wh w0 w' S M n (offL L id) → Only (Own w M) w w' → Q (.returned (.bool (locL L id).isSome)) w') :
    Calls Try.prog 16 #[ptr S, .int .i64 id] w Q := by
  obtain ⟨K, rows, h, e⟩ := h
  obtain rfl : L = fun t => ids (rows t) := funext fun t => (e t).symm
  refine drop_mine h hi Q fun w' K' h' ho => ?_
  rw [hasId_ids]
  exact hQ w' ⟨K', _, h', fun t => ids_without rows id t⟩ (ho.mono h.st.own)

theorem where_wh (h : Wh w0 w S M n L) {id : Int} (hi : (Lit.int .i64 id).wf = true) (Q : Ending → World → Prop) (hQ : Q (.returned (nv (locL L id))) w) :
    Calls Try.prog 20 #[ptr S, .int .i64 id] w Q := by
  obtain ⟨K, rows, h, e⟩ := h
  obtain rfl : L = fun t => ids (rows t) := funext fun t => (e t).symm
  cases e2 : locL (fun t => ids (rows t)) id with
  | none =>
    rw [e2] at hQ
    refine where_out h.st ?_ hi Q hQ
    rw [hasId_ids, e2]
    rfl
  | some s =>
    rw [e2] at hQ
    obtain ⟨h1, h2, _⟩ := loc_some e2
    obtain ⟨⟨g, i⟩, hp, rfl⟩ := List.mem_map.1 h2
    exact where_in h.st h1 hp Q hQ

/-- Which ids a row or what was emptied holds. -/
theorem row_wh (h : Wh w0 w S M n L) (hn : n ≤ 100000) {s : Int} (Q : Ending → World → Prop)
    (hQ : ∀ w' A' c', Below w.heap.size w w' → IsInts w' A' (rowL L s).length (rowL L s) → (∀ b o, A' = some ⟨b, o, none⟩ → HasBlk w' b 3 ∧ w.heap.size ≤ b) → Q (.returned (.slice A' (rowL L s).length c')) w') :
    Calls Try.prog 19 #[ptr S, .int .i64 s] w Q := by
  cases hm : mayB s with
  | false =>
    have := hQ w none 0 (Below.refl _ _)
    rw [rowL, hm] at this
    exact row_bad hm Q (this (IsVals.nil _ _) (fun _ _ e => by cases e))
  | true =>
    have hc := hm
    simp only [mayB, decide_eq_true_eq] at hc
    have hlen := h.len (s := s.toNat) (by omega)
    obtain ⟨K, rows, h, e⟩ := h
    rw [rowL, hm] at hQ
    refine row_mine h (s := s.toNat) (by omega) (by omega) (by rw [← e, ids_len] at hlen; omega) Q fun w' A' c' ho h' hb => ?_
    have e2 : (rows s.toNat).length = (L s.toNat).length := by rw [← e, ids_len]
    rw [e, e2] at ho
    rw [e2]
    refine hQ w' A' c' hb ?_ fun b o ea => ?_
    · obtain ⟨_, _, e3, hv1, _⟩ := vals_of_own ho
      obtain ⟨rfl, rfl⟩ : A' = _ ∧ c' = _ := by simpa using e3
      exact hv1
    · refine ⟨own_blk ho b o ea, ?_⟩
      subst ea
      rcases ho.2 with ⟨hv, _⟩ | ⟨g, cap, cur, hv, hb', hg, _⟩
      · cases hv
      · obtain ⟨⟨rfl, rfl⟩, _⟩ : (b = g ∧ o = 0) ∧ c' = cap := by simpa using hv
        exact hb'

theorem empty_wh (h : Wh w0 w S M n L) (hn : n ≤ 100000) {s : Int} (Q : Ending → World → Prop)
    (hQ : ∀ w' A' c', Wh w0 w' S M n (cutL L s) → IsRow w' A' (rowL L s).length (rowL L s) → Only (Own w M) w w' → Q (.returned (.slice A' (rowL L s).length c')) w') :
    Calls Try.prog 17 #[ptr S, .int .i64 s] w Q := by
  cases hm : mayB s with
  | false =>
    have := hQ w none 0
    rw [rowL, cutL, hm] at this
    exact empty_bad hm Q (this h ⟨IsVals.nil _ _, fun h => absurd h (Nat.lt_irrefl _)⟩ (Only.refl _ _))
  | true =>
    have hc := hm
    simp only [mayB, decide_eq_true_eq] at hc
    have hlen := h.len (s := s.toNat) (by omega)
    obtain ⟨K, rows, h, e⟩ := h
    rw [rowL, cutL, hm] at hQ
    refine empty_mine h (s := s.toNat) (by omega) (by omega) (by rw [← e, ids_len] at hlen; omega) Q fun w' K' A' c' h' hv hvb ho => ?_
    have e2 : (rows s.toNat).length = (L s.toNat).length := by rw [← e, ids_len]
    rw [e, e2] at hv
    rw [e2] at hvb ⊢
    refine hQ w' A' c' ⟨K', _, h', fun t => ?_⟩ ⟨hv, hvb⟩ (ho.mono h.st.own)
    obtain rfl : L = fun t => ids (rows t) := funext fun t => (e t).symm
    rw [if_pos rfl, ids_upd]
    rfl

theorem next_wh (h : Wh w0 w S M n L) {f : Int} (hf : f ≤ 9223372036854775807) (Q : Ending → World → Prop) (hQ : Q (.returned (nv (nxtL L f.toNat))) w) :
    Calls Try.prog 18 #[ptr S, .int .i64 f] w Q := by
  obtain ⟨K, rows, h, e⟩ := h
  obtain rfl : L = fun t => ids (rows t) := funext fun t => (e t).symm
  refine wnext_any h.st f hf Q ?_
  rwa [nxtL_ids]

theorem mask_wh (h : Wh w0 w S M n L) (Q : Ending → World → Prop) (hQ : Q (.returned (.int .u64 (maskL L 0 64 : Nat))) w) :
    Calls Try.prog 11 #[ptr S] w Q := by
  obtain ⟨K, rows, h, e⟩ := h
  obtain rfl : L = fun t => ids (rows t) := funext fun t => (e t).symm
  refine mask_any h.st Q ?_
  rwa [maskL_ids]

theorem len_wh (h : Wh w0 w S M n L) (Q : Ending → World → Prop) (hQ : Q (.returned (.int .i64 (lenL L : Nat))) w) :
    Calls Try.prog 13 #[ptr S] w Q := by
  obtain ⟨K, rows, h, e⟩ := h
  obtain rfl : L = fun t => ids (rows t) := funext fun t => (e t).symm
  refine len_any h.st Q ?_
  rwa [lenL_ids]
end

/-! the document's -/

section
variable {w : World} {D : Nat} {L : Nat → List Int}

theorem Doc.congr {L' : Nat → List Int} (h : Doc w D L) (e : ∀ t, t < 64 → L' t = L t) : Doc w D L' :=
  ⟨fun s hs => by rw [e s hs]; exact h.cell s hs, h.blk⟩

theorem rdrop_d (h : Doc w D L) (hg : Good L) (hl : ∀ s, s < 64 → (L s).length ≤ 100000) {id : Int} (Q : Ending → World → Prop)
    (hQ : ∀ w', Doc w' D (offL L id) → Only (fun k => k = D) w w' → Q (.returned (.bool (locL L id).isSome)) w') :
    Calls Try.prog 23 #[ptr D, .int .i64 id] w Q :=
  rdrop_any h hl id (locL L id) (fun _ e => loc_some e) (fun e => loc_none e) Q fun w' h' ho => hQ w' (h'.congr fun t ht => (dropL_off hg id t ht).symm) ho

theorem rwhere_d (h : Doc w D L) (hl : ∀ s, s < 64 → (L s).length ≤ 100000) {id : Int} (Q : Ending → World → Prop)
    (hQ : ∀ q, Q (.returned (nv (locL L id))) (w.drewN q)) :
    Calls Try.prog 24 #[ptr D, .int .i64 id] w Q :=
  rwhere_any h hl id (locL L id) (fun _ e => loc_some e) (fun e => loc_none e) Q hQ

theorem radd_d (h : Doc w D L) (hg : Good L) (hl : ∀ s, s < 64 → (L s).length ≤ 99999) {s id : Int} (Q : Ending → World → Prop)
    (hQ : ∀ w', Doc w' D (putL L s id) → Only (fun k => k = D) w w' → Q (.returned (.int .i64 (errI s id))) w') :
    Calls Try.prog 22 #[ptr D, .int .i64 s, .int .i64 id] w Q := by
  cases hok : okA s id with
  | false =>
    have := hQ w
    rw [putL, errI, hok] at this
    exact radd_bad hok Q (this h (Only.refl _ _))
  | true =>
    have hc := hok
    simp only [okA, decide_eq_true_eq] at hc
    obtain ⟨k, rfl⟩ : ∃ k : Nat, s = (k : Int) := ⟨s.toNat, by omega⟩
    have hk : k < 64 := by omega
    have e0 := dropL_off hg id k hk
    refine radd_ok h (fun s hs => Nat.le_trans (hl s hs) (by omega)) hk id (by omega) (by omega) (locL L id) (fun _ e => loc_some e) (fun e => loc_none e) _ rfl ?_ Q fun w' h' ho => ?_
    · rw [e0]
      exact Nat.le_trans (List.length_filter_le _ _) (Nat.le_trans (hl k hk) (by omega))
    · have := hQ w'
      rw [putL, errI, hok] at this
      refine this (h'.congr fun t ht => ?_) ho
      rw [if_pos rfl, Int.toNat_natCast, e0]
      by_cases e : t = k
      · subst e; rw [updL_same, updL_same]
      · rw [updL_other _ _ e, updL_other _ _ e]; exact (dropL_off hg id t ht).symm

theorem rrow_d (h : Doc w D L) {s : Int} (Q : Ending → World → Prop)
    (hQ : ∀ A' c', IsInts w A' (rowL L s).length (rowL L s) → Q (.returned (.slice A' (rowL L s).length c')) w) :
    Calls Try.prog 25 #[ptr D, .int .i64 s] w Q := by
  cases hm : mayB s with
  | false =>
    have := hQ none 0
    rw [rowL, hm] at this
    exact rrow_bad hm Q (this (IsVals.nil _ _))
  | true =>
    have hc := hm
    simp only [mayB, decide_eq_true_eq] at hc
    obtain ⟨k, rfl⟩ : ∃ k : Nat, s = (k : Int) := ⟨s.toNat, by omega⟩
    rw [rowL, hm] at hQ
    exact rrow_ok h (by omega) Q fun A c _ hv _ => hQ A c hv

theorem rempty_bad {s : Int} (h : mayB s = false) (Q : Ending → World → Prop) (hQ : Q (.returned (.slice none 0 0)) w) :
    Calls Try.prog 26 #[ptr D, .int .i64 s] w Q := by
  have HQ := Lib.hid hQ
  have HM := Lib.hid h
  clear hQ h
  go_enter Try.func26, Try.ntmps26
  go_wp2_with fail
  refine rrow_bad HM.out _ ?_
  go_wp2_with fail
  exact HQ.out

theorem rempty_d (h : Doc w D L) {s : Int} (Q : Ending → World → Prop)
    (hQ : ∀ w' A' c', Doc w' D (cutL L s) → IsInts w' A' (rowL L s).length (rowL L s) → Only (fun k => k = D) w w' → Q (.returned (.slice A' (rowL L s).length c')) w') :
    Calls Try.prog 26 #[ptr D, .int .i64 s] w Q := by
  cases hm : mayB s with
  | false =>
    have := hQ w none 0
    rw [rowL, cutL, hm] at this
    exact rempty_bad hm Q (this h (IsVals.nil _ _) (Only.refl _ _))
  | true =>
    have hc := hm
    simp only [mayB, decide_eq_true_eq] at hc
    obtain ⟨k, rfl⟩ : ∃ k : Nat, s = (k : Int) := ⟨s.toNat, by omega⟩
    rw [rowL, cutL, hm] at hQ
    exact rempty_ok h (by omega) Q fun w' A c h' ho hv => hQ w' A c h' hv ho

theorem rnext_d (h : Doc w D L) {f : Int} (hf : f ≤ 9223372036854775807) (Q : Ending → World → Prop) (hQ : Q (.returned (nv (nxtL L f.toNat))) w) :
    Calls Try.prog 27 #[ptr D, .int .i64 f] w Q :=
  rnext_any h f f.toNat rfl hf (nxtL L f.toNat) (fun _ e => nxt_some e) (fun e => nxt_none e) Q hQ
end
end Go.Proofs.Ytbhhbddmokddeaa
