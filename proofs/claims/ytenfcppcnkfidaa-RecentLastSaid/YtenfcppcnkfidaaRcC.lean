/-
  The document's Recent (a list of ids in a slice), walked.
-/
import Derived.Test.YtenfcppcnkfidaaRcB
namespace Go.Proofs.Ytenfcppcnkfidaa
open Go.RowKit Go.Maps

/-- The document's Recent at block K holds the ids xs; its row lies from block B on. -/
def Doc (w : World) (K B : Nat) (xs : List Int) : Prop :=
  ∃ v, Blk w K 28 #[v] ∧ w.ownsRow B 3 1 v xs.length (vals xs)

theorem Doc.open_ {w : World} {K B : Nat} {xs : List Int} (h : Doc w K B xs) :
    ∃ A c, Blk w K 28 #[.slice A xs.length c] ∧ IsInts w A xs.length xs ∧ xs.length ≤ c ∧ c ≤ maxLen ∧ (A = none ∧ xs.length = 0 ∧ c = 0 ∨ ∃ g, A = some ⟨g, 0, none⟩ ∧ B ≤ g ∧ g < w.heap.size ∧ g ≠ K) ∧ w.ownsRow B 3 1 (.slice A xs.length c) xs.length (vals xs) := by
  obtain ⟨v, hb, ho⟩ := h
  obtain ⟨A, c, rfl, hx, h1, h2, h3⟩ := vals_of_own ho
  refine ⟨A, c, hb, hx, h1, h2, ?_, ho⟩
  rcases h3 with h3 | ⟨g, rfl, hg, hl⟩
  · exact .inl h3
  · refine .inr ⟨g, rfl, hg, hl, ?_⟩
    rintro rfl
    rcases ho.2 with ⟨e, _⟩ | ⟨g', cap, cur, e, _, hh, _⟩
    · cases e
    · have : g' = g := by simp at e; exact e.1.symm
      subst this
      have := (hb.eq_ (t' := 3) (cs' := cur) hh).1
      exact absurd this (by decide)

theorem Doc.only {F : Nat → Prop} {w w' : World} {K B : Nat} {xs : List Int} (h : Doc w K B xs) (ho : Only F w w') (hK : ¬ F K) (hB : ∀ k, B ≤ k → k < w.heap.size → (∃ cs, Blk w k 3 cs) → ¬ F k) : Doc w' K B xs := by
  obtain ⟨v, hb, hr⟩ := h
  refine ⟨v, hb.only ho hK, ho.own hr fun k hk => ?_⟩
  rcases hr.2 with ⟨e, _⟩ | ⟨g', cap, cur, e, hg, hh, _⟩
  · subst e; simp [Value.ownBlock] at hk
  · subst e
    have : g' = k := by simpa [Value.ownBlock] using hk
    subst this
    exact hB _ hg (Array.getElem?_eq_some_iff.1 hh).1 ⟨cur, hh⟩

/-! ### place -/

def plcAt (id : Int) : List Int → Nat → Int
  | [], _ => -1
  | x :: r, k => if x = id then (k : Int) else plcAt id r (k + 1)

theorem plcAt_out {id : Int} : ∀ {xs : List Int} {k : Nat}, id ∉ xs → plcAt id xs k = -1
  | [], _, _ => rfl
  | x :: r, k, h => by
    simp only [List.mem_cons, not_or] at h
    rw [plcAt, if_neg (fun e => h.1 e.symm)]
    exact plcAt_out h.2

theorem plcAt_mid {id : Int} {ys : List Int} : ∀ {xs : List Int} {k : Nat}, id ∉ xs → plcAt id (xs ++ id :: ys) k = ((k + xs.length : Nat) : Int)
  | [], k, _ => by simp [plcAt]
  | x :: r, k, h => by
    simp only [List.mem_cons, not_or] at h
    rw [List.cons_append, plcAt, if_neg (fun e => h.1 e.symm), plcAt_mid h.2]
    simp only [List.length_cons]
    congr 1
    omega

theorem place_any {w : World} {K n c : Nat} {A : Option Addr} {xs : List Int} (hb : Blk w K 28 #[.slice A n c]) (hx : IsInts w A n xs) (hn : n ≤ 100000) (id : Int) (Q : Ending → World → Prop)
    (hQ : Q (.returned (.int .i64 (plcAt id xs 0))) w) :
    Calls Try.prog 21 #[ptr K, .int .i64 id] w Q := by
  have c0 : w.cell? ⟨K, 0, none⟩ = some (.slice A n c) := hb.cell 0
  have HX := Lib.hid hx
  have HQ := Lib.hid hQ
  clear hb hx hQ
  go_enter Try.func21, Try.ntmps21
  go_wp2_with fail
  go_loopg [5] n (fun g i wr => ∃ k : Nat, k ≤ n ∧ g = n - k ∧ i = .int .i64 k ∧ wr = w ∧ Hid (plcAt id xs 0 = plcAt id (xs.drop k) k))
  case atStart => exact ⟨0, Nat.zero_le _, rfl, rfl, rfl, Lib.hid rfl⟩
  case round =>
    obtain ⟨k, hk, hg, rfl, rfl, HE⟩ := hrel
    have HG := Lib.hid hg
    clear hg
    by_cases hlt : k < n
    · obtain ⟨b, o, rfl, _, cx⟩ := HX.out.at_ hlt
      have hd : xs.drop k = xs.getD k 0 :: xs.drop (k + 1) := by
        have := HX.out.len
        rw [List.drop_eq_getElem_cons (by omega), List.getD_eq_getElem?_getD, List.getElem?_eq_getElem (by omega)]
        rfl
      generalize xs.getD k 0 = x at *
      have HD := Lib.hid hd
      clear hd
      by_cases hxy : x = id
      · subst hxy
        go_wp2_with fail
        have := HQ.out
        rw [HE.out, HD.out, plcAt, if_pos rfl] at this
        exact this
      · have hne : (x == id) = false := by simpa using hxy
        have HN := Lib.hid hxy
        clear hxy
        go_wp2_with fail
        go_roundg (n - (k + 1))
        case measure => have := HG.out; omega
        case rel => exact ⟨k + 1, by omega, rfl, by go_num, rfl, Lib.hid (by rw [HE.out, HD.out, plcAt, if_neg HN.out])⟩
    · have e : k = n := by omega
      subst e
      have hfin := HQ.out
      rw [HE.out, List.drop_of_length_le (by rw [HX.out.len]; exact Nat.le_refl _)] at hfin
      have HF := Lib.hid hfin
      clear hfin
      go_wp2_with fail
      exact HF.out

/-! ### Drop -/

def restI (id : Int) (xs : List Int) : List Int := xs.filter fun x => !(x == id)

theorem restI_out {id : Int} {xs : List Int} (h : id ∉ xs) : restI id xs = xs := by
  unfold restI
  rw [List.filter_eq_self]
  intro x hx
  simp only [Bool.not_eq_true', beq_eq_false_iff_ne]
  rintro rfl
  exact h hx

theorem restI_mid {id : Int} {xs ys : List Int} (hx : id ∉ xs) (hy : id ∉ ys) : restI id (xs ++ id :: ys) = xs ++ ys := by
  have h1 := restI_out hx
  have h2 := restI_out hy
  unfold restI at *
  rw [List.filter_append, List.filter_cons, h1, h2]
  simp

theorem ids_rest (id : Int) (ns : List (Nat × Int)) : ids (rest id ns) = restI id (ids ns) := by
  unfold ids rest restI
  rw [List.filter_map]
  rfl

set_option maxHeartbeats 400000 in
theorem ddrop_in {w : World} {K B : Nat} {id : Int} {xs ys : List Int} (h : Doc w K B (xs ++ id :: ys)) (hx : id ∉ xs) (hlen : (xs ++ id :: ys).length ≤ 100000) (hB : B ≤ w.heap.size) (Q : Ending → World → Prop)
    (hQ : ∀ w', Doc w' K B (xs ++ ys) → Only (fun k => k = K) w w' → Q (.returned (.bool true)) w') :
    Calls Try.prog 13 #[ptr K, .int .i64 id] w Q := by
  obtain ⟨A, c, hb, hxs, hc1, hc2, hA, hown⟩ := h.open_
  rcases hA with ⟨_, h0, _⟩ | ⟨g, rfl, hg, hgl, hgK⟩
  · simp at h0
  have hp := plcAt_mid (ys := ys) (k := 0) hx
  rw [Nat.zero_add] at hp
  generalize hn : (xs ++ id :: ys).length = n at *
  have hnx : n = xs.length + 1 + ys.length := by rw [← hn]; simp; omega
  have hpl := Lib.hid (place_any hb hxs hlen id)
  have c0 : w.cell? ⟨K, 0, none⟩ = some (.slice (some ⟨g, 0, none⟩) n c) := hb.cell 0
  have hKl := hb.lt
  have v1 : IsVals w (some ⟨g, 0, none⟩) xs.length (vals xs) := by
    have := IsVals.take hxs (k := xs.length) (by omega)
    rw [vals_take] at this
    simpa using this
  have v2 : IsVals w (if c = xs.length + 1 then some ⟨g, 0, none⟩ else some ⟨g, 0 + (xs.length + 1), none⟩) (n - (xs.length + 1)) (vals ys) := by
    have := IsVals.drop hxs (k := xs.length + 1) (cap := c) (by omega) hc1
    rw [vals_drop] at this
    simpa using this
  rw [Nat.zero_add] at v2
  have h1 : xs.length < n := by omega
  have hnb : n ≤ 100000 := hlen
  generalize hi : xs.length = i at *
  have V1 := Lib.hid v1
  have V2 := Lib.hid v2
  have HP := Lib.hid hp
  have HQ := Lib.hid hQ
  have HB := Lib.hid hb
  have HI := Lib.hid (And.intro hi hnx)
  clear v1 v2 hp hQ hb hxs hown h hi hnx hn hlen
  unfold maxLen at hc2
  have hst : ∀ w1, Below w.heap.size w w1 → w1.cell? ⟨K, 0, none⟩ = some (.slice (some ⟨g, 0, none⟩) n c) ∧ w1.frozen? ⟨K, 0, none⟩ = false ∧
      Hid (IsVals w1 (if c = i + 1 then some ⟨g, 0, none⟩ else some ⟨g, i + 1, none⟩) (n - (i + 1)) (vals ys)) := fun w1 hb1 =>
    ⟨(hb1.cell (p := ⟨K, 0, none⟩) hKl).trans c0, (hb1.frozen (p := ⟨K, 0, none⟩) hKl).trans (HB.out.frozen 0), V2.out.below hb1⟩
  have HST := Lib.hid hst
  clear hst
  go_enter Try.func13, Try.ntmps13
  go_wp2_with fail
  refine hpl.out _ ?_
  rw [HP.out]
  go_wp2_with (first
    | (at_builtin; refine wpList_app rfl (.tmp 12) (.tmp 18) 26 rfl w.heap.size 3 Try.underlying26 infoInt rfl (.slice (some ⟨w.heap.size, 0, none⟩) 0 0) 0 [] rfl (own_empty w _ 3 (Nat.le_refl _)) (some ⟨g, 0, none⟩) i c (vals xs) rfl (V1.out.alloc _) (vals_cell _) (by unfold maxLen; omega) (by omega) (by simp) ?_; intro A1 c1 w1 hown1 hg1; rw [Nat.zero_add, List.nil_append] at hown1; have hb1 := Lib.hid (own_grown ((Below.refl _ w).alloc (Nat.le_refl _) _) (own_empty w _ 3 (Nat.le_refl _)) hg1 (by simp)); obtain ⟨k1, k2, k3⟩ := HST.out w1 hb1.out; have hz1 := hb1.out.size; clear hg1)
    | (at_builtin; refine wpList_app rfl (.tmp 21) (.tmp 28) 26 rfl w.heap.size 3 Try.underlying26 infoInt rfl (.slice A1 i c1) i (vals xs) rfl hown1 (if c = i + 1 then some ⟨g, 0, none⟩ else some ⟨g, i + 1, none⟩) (n - (i + 1)) (c - (i + 1)) (vals ys) rfl k3.out (vals_cell _) (by unfold maxLen; omega) (by omega) hz1 ?_; intro A2 c2 w2 hown2 hg2; have hb2 := Lib.hid (own_grown hb1.out hown1 hg2 hz1); obtain ⟨m1, m2, _⟩ := HST.out w2 hb2.out; clear hg2))
  all_goals
    have hz2 := hb2.out.size
    have e1 : i + (n - (i + 1)) = (xs ++ ys).length := by have := HI.out; simp; omega
    rw [e1, ← vals_append] at hown2
    refine HQ.out _ ⟨.slice A2 (i + (n - (i + 1))) c2, ?_, ?_⟩ ?_
    · exact (HB.out.below hb2.out hKl).set_ 0 _
    · refine own_weaken (base := w.heap.size) ?_ hB
      rw [e1]
      exact RowKit.ownsRow_setCell_below (a := ⟨K, 0, none⟩) hown2 hKl _
    · exact (Only.ofBelow (F := fun k => k = K) hb2.out).setCell (p := ⟨K, 0, none⟩) (.inl rfl) _

theorem ddrop_out {w : World} {K B : Nat} {id : Int} {xs : List Int} (h : Doc w K B xs) (hx : id ∉ xs) (hlen : xs.length ≤ 100000) (Q : Ending → World → Prop)
    (hQ : Q (.returned (.bool false)) w) :
    Calls Try.prog 13 #[ptr K, .int .i64 id] w Q := by
  obtain ⟨A, c, hb, hxs, hc1, hc2, hA, hown⟩ := h.open_
  have hp := plcAt_out (k := 0) hx
  have hpl := Lib.hid (place_any hb hxs hlen id)
  have HP := Lib.hid hp
  clear hp hb hxs hown h hA
  go_enter Try.func13, Try.ntmps13
  go_wp2_with fail
  refine hpl.out _ ?_
  rw [HP.out]
  go_wp2_with fail
  exact hQ

theorem ddrop_doc {w : World} {K B : Nat} {id : Int} {xs : List Int} (h : Doc w K B xs) (hnd : xs.Nodup) (hlen : xs.length ≤ 100000) (hB : B ≤ w.heap.size) (Q : Ending → World → Prop)
    (hQ : ∀ w', Doc w' K B (restI id xs) → Only (fun k => k = K) w w' → Q (.returned (.bool (xs.any (· == id)))) w') :
    Calls Try.prog 13 #[ptr K, .int .i64 id] w Q := by
  by_cases hx : id ∈ xs
  · obtain ⟨ps, bs, rfl⟩ := List.append_of_mem hx
    have h1 : id ∉ ps := fun hh => by
      rw [List.nodup_append] at hnd
      exact hnd.2.2 id hh id (by simp) rfl
    have h2 : id ∉ bs := fun hh => by
      rw [List.nodup_append] at hnd
      exact (List.nodup_cons.1 hnd.2.1).1 hh
    refine ddrop_in h h1 hlen hB Q fun w' h' ho => ?_
    have := hQ w' (by rw [restI_mid h1 h2]; exact h') ho
    simpa using this
  · refine ddrop_out h hx hlen Q ?_
    have := hQ w (by rw [restI_out hx]; exact h) (Only.refl _ _)
    have e : (xs.any (· == id)) = false := by
      rw [List.any_eq_false]
      intro x hx' e
      exact hx (by rw [← (beq_iff_eq.1 e)]; exact hx')
    rw [e] at this
    exact this

/-! ### Touch -/

theorem dtouch_bad {w : World} {K : Nat} {id : Int} (hi : id < 0) (Q : Ending → World → Prop) (hQ : Q (.returned (.int .i64 1)) w) :
    Calls Try.prog 11 #[ptr K, .int .i64 id] w Q := by
  go_enter Try.func11, Try.ntmps11
  go_wp2_with fail
  exact hQ

set_option maxHeartbeats 400000 in
theorem dtouch_doc {w : World} {K B : Nat} {id : Int} {xs : List Int} (h : Doc w K B xs) (hnd : xs.Nodup) (h0 : 0 ≤ id) (hlen : xs.length ≤ 100000) (hB : B ≤ w.heap.size) (Q : Ending → World → Prop)
    (hQ : ∀ w', Doc w' K B (restI id xs ++ [id]) → Only (fun k => k = K) w w' → Q (.returned (.int .i64 0)) w') :
    Calls Try.prog 11 #[ptr K, .int .i64 id] w Q := by
  have hdr := Lib.hid (fun Q hQ => ddrop_doc (id := id) h hnd hlen hB Q hQ)
  have HQ := Lib.hid hQ
  clear h hQ hnd
  go_enter Try.func11, Try.ntmps11
  go_wp2_with fail
  refine hdr.out _ fun w0 h0 o0 => ?_
  have hle : (restI id xs).length ≤ xs.length := List.length_filter_le _ _
  generalize hr : restI id xs = ys at *
  obtain ⟨A, c, hb, hys, hc1, hc2, _, hown⟩ := h0.open_
  have hn : ys.length ≤ 100000 := by omega
  generalize hm : ys.length = n at *
  have c0 : w0.cell? ⟨K, 0, none⟩ = some (.slice A n c) := hb.cell 0
  have hKl := hb.lt
  have HY := Lib.hid hys
  have HB := Lib.hid hb
  have HM := Lib.hid hm
  have HO := Lib.hid o0
  have hst : ∀ w1, Below w0.heap.size w0 w1 → w1.cell? ⟨K, 0, none⟩ = some (.slice A n c) ∧ w1.frozen? ⟨K, 0, none⟩ = false := fun w1 hb1 =>
    ⟨(hb1.cell (p := ⟨K, 0, none⟩) hKl).trans c0, (hb1.frozen (p := ⟨K, 0, none⟩) hKl).trans (hb.frozen 0)⟩
  have HST := Lib.hid hst
  clear hst hr hb hys hown hm hle h0 hlen o0
  unfold maxLen at hc2
  go_wp2_with (first
    | (at_builtin; refine wpList_app rfl (.tmp 11) (.tmp 15) 26 rfl w0.heap.size 3 Try.underlying26 infoInt rfl (.slice (some ⟨w0.heap.size, 0, none⟩) 0 0) 0 [] rfl (own_empty w0 _ 3 (Nat.le_refl _)) A n c (vals ys) rfl (HY.out.alloc _) (vals_cell _) (by unfold maxLen; omega) (by omega) (by simp) ?_; intro A1 c1 w1 hown1 hg1; rw [Nat.zero_add, List.nil_append] at hown1; have hb1 := Lib.hid (own_grown ((Below.refl _ w0).alloc (Nat.le_refl _) _) (own_empty w0 _ 3 (Nat.le_refl _)) hg1 (by simp)); obtain ⟨k1, k2⟩ := HST.out w1 hb1.out; have hz1 := hb1.out.size; clear hg1)
    | (at_builtin; refine wpList_app rfl (.tmp 16) (.tmp 18) 26 rfl w0.heap.size 3 Try.underlying26 infoInt rfl (.slice A1 n c1) n (vals ys) rfl (hown1.alloc _) (some ⟨w1.heap.size, 0, none⟩) 1 1 [.int .i64 id] rfl (vals_one _ _ _) (by simp [Value.oneCell']) (by unfold maxLen; omega) (by omega) (by simp; omega) ?_; intro A2 c2 w2 hown2 hg2; have hb2 := Lib.hid (own_grown (hb1.out.alloc hz1 _) (hown1.alloc _) hg2 (by simp; omega)); obtain ⟨m1, m2⟩ := HST.out w2 hb2.out; clear hg2))
  have hz2 := hb2.out.size
  have e1 : n + 1 = (ys ++ [id]).length := by have := HM.out; simp; omega
  have e2 : vals ys ++ [Value.int .i64 id] = vals (ys ++ [id]) := by rw [vals_append]; rfl
  rw [e1, e2] at hown2
  refine HQ.out _ ⟨.slice A2 (n + 1) c2, ?_, ?_⟩ ?_
  · exact (HB.out.below hb2.out hKl).set_ 0 _
  · refine own_weaken (base := w0.heap.size) ?_ (Nat.le_trans hB HO.out.size)
    exact RowKit.ownsRow_setCell_below (a := ⟨K, 0, none⟩) (by rw [show n + 1 = (ys ++ [id]).length from e1]; exact hown2) hKl _
  · exact HO.out.trans ((Only.ofBelow (F := fun k => k = K) hb2.out).setCell (p := ⟨K, 0, none⟩) (.inl rfl) _) fun _ hi => .inl hi

/-! ### Oldest, Newer -/

theorem doldest_doc {w : World} {K B : Nat} {xs : List Int} (h : Doc w K B xs) (hlen : xs.length ≤ 100000) (Q : Ending → World → Prop)
    (hQ : Q (.returned (.tuple #[.int .i64 (hd xs), .bool (more xs)])) w) :
    Calls Try.prog 15 #[ptr K] w Q := by
  obtain ⟨A, c, hb, hxs, hc1, hc2, hA, hown⟩ := h.open_
  have c0 : w.cell? ⟨K, 0, none⟩ = some (.slice A xs.length c) := hb.cell 0
  unfold maxLen at hc2
  cases xs with
  | nil =>
    clear hb hxs hown h hA
    simp only [List.length_nil] at *
    go_enter Try.func15, Try.ntmps15
    go_wp2_with fail
    exact hQ
  | cons x r =>
    obtain ⟨b, o, rfl, _, cx⟩ := hxs.at_ (k := 0) (by simp)
    have e : (x :: r).getD 0 0 = hd (x :: r) := rfl
    rw [e, Nat.add_zero] at cx
    generalize hd (x :: r) = y at *
    have e2 : more (x :: r) = true := rfl
    rw [e2] at hQ
    have hpos : 0 < (x :: r).length := by simp
    have hne : ((((x :: r).length : Nat) : Int) == 0) = false := by simp; omega
    generalize (x :: r).length = n at *
    clear hb hxs hown h hA
    go_enter Try.func15, Try.ntmps15
    go_wp2_with fail
    exact hQ

theorem dnewer_doc {w : World} {K B : Nat} {id : Int} {xs : List Int} (h : Doc w K B xs) (hlen : xs.length ≤ 100000) (Q : Ending → World → Prop)
    (hQ : Q (.returned (.tuple #[.int .i64 (hd (behindIds id xs)), .bool (more (behindIds id xs))])) w) :
    Calls Try.prog 17 #[ptr K, .int .i64 id] w Q := by
  obtain ⟨A, c, hb, hxs, hc1, hc2, hA, hown⟩ := h.open_
  have c0 : w.cell? ⟨K, 0, none⟩ = some (.slice A xs.length c) := hb.cell 0
  have hpl := Lib.hid (place_any hb hxs hlen id)
  unfold maxLen at hc2
  by_cases hx : id ∈ xs
  · obtain ⟨ps, bs, rfl, hps⟩ : ∃ ps bs, xs = ps ++ id :: bs ∧ id ∉ ps := List.eq_append_cons_of_mem hx
    have hp := plcAt_mid (ys := bs) (k := 0) hps
    rw [Nat.zero_add] at hp
    rw [behindIds_mid hps] at hQ
    have hl : (ps ++ id :: bs).length = ps.length + 1 + bs.length := by simp; omega
    have HP := Lib.hid hp
    have hxs' : bs ≠ [] → ∃ g, A = some ⟨g, 0, none⟩ ∧ w.cell? ⟨g, ps.length + 1, none⟩ = some (.int .i64 (hd bs)) := fun hne => by
      have hpos : 0 < bs.length := List.length_pos_iff.2 hne
      obtain ⟨b, o, e, _, cx⟩ := hxs.at_ (k := ps.length + 1) (by omega)
      rcases hA with ⟨e', _⟩ | ⟨g, e', _⟩
      · rw [e'] at e; cases e
      · obtain ⟨rfl, rfl⟩ : g = b ∧ 0 = o := by rw [e'] at e; simpa using e
        refine ⟨_, e, ?_⟩
        rw [Nat.zero_add] at cx
        rw [cx]
        cases bs with
        | nil => exact absurd rfl hne
        | cons x r => simp [List.getD, hd]
    generalize (ps ++ id :: bs).length = n at *
    cases bs with
    | nil =>
      have e2 : more ([] : List Int) = false := rfl
      have e3 : hd [] = 0 := rfl
      rw [e2, e3] at hQ
      simp only [List.length_nil] at hl
      have hne : ((ps.length : Int) == (n : Int) - 1) = true := by rw [beq_iff_eq]; omega
      have HL := Lib.hid hl
      generalize ps.length = i at *
      clear hxs' hp hb hxs hown h hA hl hx hps
      go_enter Try.func17, Try.ntmps17
      go_wp2_with fail
      refine hpl.out _ ?_
      rw [HP.out]
      go_wp2_with fail
      exact hQ
    | cons x r =>
      obtain ⟨g, rfl, cx⟩ := hxs' (by simp)
      have e2 : more (x :: r) = true := rfl
      rw [e2] at hQ
      simp only [List.length_cons] at hl
      have hne : ((ps.length : Int) == (n : Int) - 1) = false := by rw [beq_eq_false_iff_ne]; omega
      have hlt : ps.length + 1 < n := by omega
      generalize hd (x :: r) = y at *
      generalize ps.length = i at *
      clear hxs' hp hb hxs hown h hA hl hx hps
      go_enter Try.func17, Try.ntmps17
      go_wp2_with fail
      refine hpl.out _ ?_
      rw [HP.out]
      go_wp2_with fail
      exact hQ
  · have hp := plcAt_out (k := 0) hx
    have HP := Lib.hid hp
    rw [behindIds_out hx] at hQ
    clear hp hb hxs hown h hA
    go_enter Try.func17, Try.ntmps17
    go_wp2_with fail
    refine hpl.out _ ?_
    rw [HP.out]
    go_wp2_with fail
    exact hQ
end Go.Proofs.Ytenfcppcnkfidaa
