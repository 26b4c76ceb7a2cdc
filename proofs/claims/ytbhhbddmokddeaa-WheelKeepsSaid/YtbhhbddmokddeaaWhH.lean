/-
  Empty; Ints.
-/
import Derived.Test.YtbhhbddmokddeaaWhG
namespace Go.Proofs.Ytbhhbddmokddeaa
open Go.RowKit Go.Maps

theorem take_succ_eq {xs ys : List Int} {k : Nat} (h : xs.take k = ys.take k) (hx : k < xs.length) (hy : k < ys.length) : (xs.take (k + 1) = ys.take (k + 1)) ↔ xs.getD k 0 = ys.getD k 0 := by
  rw [List.take_succ_eq_append_getElem hx, List.take_succ_eq_append_getElem hy, h, List.append_cancel_left_eq]
  simp [List.getD, hx, hy]

set_option maxHeartbeats 400000 in
theorem ints_any {w : World} {A B : Option Addr} {n m c d : Nat} {xs ys : List Int} (hx : IsInts w A n xs) (hy : IsInts w B m ys) (hn : n ≤ maxLen) (hm : m ≤ maxLen) (Q : Ending → World → Prop)
    (hQ : ∀ k b, (b = true ↔ xs = ys) → Q (.returned (.bool b)) (w.drewN k)) :
    Calls Try.prog 21 #[.slice A n c, .slice B m d] w Q := by
  unfold maxLen at hn hm
  by_cases hnm : n = m
  · subst hnm
    go_enter Try.func21, Try.ntmps21
    have HX := Lib.hid hx
    have HY := Lib.hid hy
    have HQ := Lib.hid hQ
    clear hx hy hQ
    go_wp2_with fail
    go_loopg [5] n (fun g i wr => ∃ k q : Nat, k ≤ n ∧ g = n - k ∧ i = .int .i64 k ∧ wr = w.drewN q ∧ Hid (xs.take k = ys.take k))
    case atStart => exact ⟨0, 0, Nat.zero_le _, rfl, rfl, rfl, Lib.hid rfl⟩
    case round =>
      obtain ⟨k, q, hk, hg, rfl, rfl, HE⟩ := hrel
      have HG := Lib.hid hg
      clear hg
      by_cases hlt : k < n
      · obtain ⟨b, o, rfl, _, cx⟩ := HX.out.at_ hlt
        obtain ⟨b', o', rfl, _, cy⟩ := HY.out.at_ hlt
        have hlx := HX.out.len
        have hly := HY.out.len
        have ht := take_succ_eq HE.out (by omega) (by omega)
        generalize xs.getD k 0 = x at *
        generalize ys.getD k 0 = y at *
        by_cases hxy : x = y
        · have HT := Lib.hid (ht.2 hxy)
          subst hxy
          clear ht hlx hly
          go_wp2_with fail
          go_region
          go_wp2_with fail
          go_roundg (n - (k + 1))
          case measure => have := HG.out; omega
          case rel => exact ⟨k + 1, q + 1, by omega, rfl, by go_num, rfl, HT⟩
        · have HT := Lib.hid fun h => hxy (ht.1 h)
          have hne : (x == y) = false := by simpa using hxy
          have HL := Lib.hid (And.intro hlx hly)
          clear ht hlx hly
          go_wp2_with fail
          go_region
          go_wp2_with fail
          refine HQ.out _ false ?_
          simp only [Bool.false_eq_true, false_iff]
          intro e
          exact HT.out (by rw [e])
      · have e : k = n := by omega
        subst e
        go_wp2_with fail
        refine HQ.out q true ?_
        have h1 := HX.out.len
        have h2 := HY.out.len
        have h3 := HE.out
        rw [List.take_of_length_le (by omega), List.take_of_length_le (by omega)] at h3
        simpa using h3
  · go_enter Try.func21, Try.ntmps21
    have HQ := Lib.hid hQ
    clear hQ
    go_wp2_with fail
    refine HQ.out 0 false ?_
    simp only [Bool.false_eq_true, false_iff]
    rintro rfl
    exact hnm (hx.len.symm.trans hy.len)

theorem upd_upd (rows : Nat → List Nd) (s : Nat) (a b : List Nd) : upd (upd rows s a) s b = upd rows s b := by
  funext t
  unfold upd
  split <;> rfl

theorem upd_self (rows : Nat → List Nd) (s : Nat) : upd rows s (rows s) = rows := by
  funext t
  unfold upd
  split
  · rename_i e; rw [e]
  · rfl

theorem empty_bad {w : World} {S : Nat} {s : Int} (h : mayB s = false) (Q : Ending → World → Prop) (hQ : Q (.returned (.slice none 0 0)) w) :
    Calls Try.prog 17 #[ptr S, .int .i64 s] w Q := by
  have HQ := Lib.hid hQ
  have HM := Lib.hid h
  clear hQ h
  go_enter Try.func17, Try.ntmps17
  go_wp2_with fail
  refine row_bad HM.out _ ?_
  go_wp2_with fail
  go_loopg [13] 0 (fun g i wr => i = .int .i64 0 ∧ wr = w)
  case atStart => exact ⟨rfl, rfl⟩
  case round =>
    obtain ⟨rfl, rfl⟩ := hrel
    go_wp2_with fail
    exact HQ.out

set_option maxHeartbeats 800000 in
theorem empty_ok {w : World} {S M K n s : Nat} {rows : Nat → List Nd} (h : Whl w S M K n rows (maskOf rows)) (hs : s < 64) (hl : (rows s).length ≤ 100000) (Q : Ending → World → Prop)
    (hQ : ∀ w' K' A' c', Whl w' S M K' n (upd rows s []) (maskOf (upd rows s [])) → IsInts w' A' (rows s).length (ids (rows s)) → (0 < (rows s).length → ∀ b o, A' = some ⟨b, o, none⟩ → HasBlk w' b 3) → Only (Foot S M K rows) w w' → (K' = K ∨ w.heap.size ≤ K') → Q (.returned (.slice A' (rows s).length c')) w') :
    Calls Try.prog 17 #[ptr S, .int .i64 (s : Int)] w Q := by
  have HQ := Lib.hid hQ
  have HH := Lib.hid h
  clear hQ h
  go_enter Try.func17, Try.ntmps17
  go_wp2_with fail
  refine row_ok HH.out hs hl _ fun w1 A1 c1 ho1 hb1 => ?_
  have h1 := HH.out.below hb1
  have hbase : Hid (∃ _ : IsInts w1 A1 (rows s).length (ids (rows s)), 0 < (rows s).length → ∃ g, A1 = some ⟨g, 0, none⟩ ∧ RowIs w1 g 3 (rows s).length (ivals (ids (rows s)))) := Lib.hid (by
    refine ⟨?_, fun h0 => ?_⟩
    · obtain ⟨_, _, e, hv1, _⟩ := vals_of_own ho1
      obtain ⟨rfl, rfl⟩ : A1 = _ ∧ c1 = _ := by simpa using e
      exact hv1
    · obtain ⟨g, rfl, _, hr⟩ := rowIs_of_own ho1 h0
      exact ⟨g, rfl, hr⟩)
  have H1 := Lib.hid (And.intro h1 hb1)
  clear h1 ho1 hb1
  go_wp2_with fail
  go_loopg [13] (rows s).length (fun g i wr => ∃ (j K' : Nat), j ≤ (rows s).length ∧ g = (rows s).length - j ∧ i = .int .i64 (j : Int) ∧ Hid (Whl wr S M K' n (upd rows s ((rows s).drop j)) (maskOf (upd rows s ((rows s).drop j))) ∧ Only (Foot S M K rows) w wr ∧ (K' = K ∨ w.heap.size ≤ K') ∧ IsInts wr A1 (rows s).length (ids (rows s)) ∧ (0 < (rows s).length → ∃ g, A1 = some ⟨g, 0, none⟩ ∧ RowIs wr g 3 (rows s).length (ivals (ids (rows s))))))
  case atStart =>
    obtain ⟨hv, hg⟩ := hbase.out
    exact ⟨0, K, Nat.zero_le _, rfl, rfl, Lib.hid ⟨by rw [List.drop_zero, upd_self]; exact H1.out.1, Only.ofBelow H1.out.2, .inl rfl, hv, hg⟩⟩
  case round =>
    clear hbase
    obtain ⟨j, K', hj, hg, rfl, HR⟩ := hrel
    have HG := Lib.hid hg
    clear hg
    by_cases hlt : j < (rows s).length
    · obtain ⟨b, o, eA, _, c0⟩ := HR.out.2.2.2.1.at_ hlt
      obtain ⟨g, eg, hrow⟩ := HR.out.2.2.2.2 (by omega)
      subst eA
      obtain ⟨rfl, rfl⟩ : b = g ∧ o = 0 := by simpa using eg
      have hid0 : (ids (rows s)).getD j 0 = ((rows s)[j]).2 := by
        unfold ids
        rw [List.getD_eq_getElem?_getD, List.getElem?_map, List.getElem?_eq_getElem hlt]
        rfl
      rw [hid0] at c0
      have hdr : (rows s).drop j = (rows s)[j] :: (rows s).drop (j + 1) := List.drop_eq_getElem_cons hlt
      generalize (rows s)[j] = nd at *
      obtain ⟨L, id⟩ := nd
      have c0' : wr.cell? ⟨b, j, none⟩ = some (.int .i64 id) := by have := c0; rwa [Nat.zero_add] at this
      have HDR := Lib.hid hdr
      have HROW := Lib.hid hrow
      clear c0 hid0 hdr hrow eg
      generalize hlen : (rows s).length = len at *
      have HLEN := Lib.hid hlen
      clear hlen
      go_wp2_with fail
      refine drop_in (pre := []) (post := (rows s).drop (j + 1)) HR.out.1 hs (by rw [upd_same, HDR.out]; rfl) _ fun w2 K2 h2 ho2 hk2 => ?_
      have hnf : ¬ Foot S M K' (upd rows s ((rows s).drop j)) b := HR.out.1.other HROW.out.hasBlk (by decide) (by decide) (by decide)
      have hr2 := RowIs.only HROW.out ho2 hnf
      have hfin : Hid (Whl w2 S M K2 n (upd rows s ((rows s).drop (j + 1))) (maskOf (upd rows s ((rows s).drop (j + 1)))) ∧ Only (Foot S M K rows) w w2 ∧ (K2 = K ∨ w.heap.size ≤ K2) ∧ IsInts w2 (some ⟨b, 0, none⟩) len (ids (rows s)) ∧ (0 < len → ∃ g, (some ⟨b, 0, none⟩ : Option Addr) = some ⟨g, 0, none⟩ ∧ RowIs w2 g 3 len (ivals (ids (rows s))))) := Lib.hid (by
        rw [List.nil_append, upd_upd] at h2
        refine ⟨h2, HR.out.2.1.trans ho2 fun k hk => ?_, .inr (Nat.le_trans HR.out.2.1.size hk2), hr2.vals, fun _ => ⟨b, rfl, hr2⟩⟩
        rcases hk with rfl | rfl | rfl | ⟨t, ht, p, hp, rfl⟩
        · exact .inl (.inl rfl)
        · exact .inl (.inr (.inl rfl))
        · rcases HR.out.2.2.1 with e | e
          · exact .inl (.inr (.inr (.inl e)))
          · exact .inr e
        · refine .inl (.inr (.inr (.inr ⟨t, ht, p, ?_, rfl⟩)))
          unfold upd at hp
          split at hp
          · rename_i e; subst e; exact List.mem_of_mem_drop hp
          · exact hp)
      clear h2 ho2 hk2 hr2 hnf
      go_wp2_with fail
      go_roundg (len - (j + 1))
      case measure => have := HG.out; omega
      case rel => exact ⟨j + 1, K2, by omega, rfl, by go_num, hfin⟩
    · have he : j = (rows s).length := by omega
      have hd : (rows s).drop j = [] := by rw [he]; exact List.drop_length
      have HR2 := HR.out
      rw [hd] at HR2
      have HF := Lib.hid (HQ.out _ _ _ c1 HR2.1 HR2.2.2.2.1 (fun h0 b o e => by obtain ⟨g, eg, hr⟩ := HR2.2.2.2.2 h0; rw [eg] at e; cases e; exact hr.hasBlk) HR2.2.1 HR2.2.2.1)
      clear HR2 hd
      go_wp2_with fail
      exact HF.out
end Go.Proofs.Ytbhhbddmokddeaa
