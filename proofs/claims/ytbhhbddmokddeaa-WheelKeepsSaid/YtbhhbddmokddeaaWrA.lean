/-
  The document's wheel: its state; Where, Row, Next, Mask, Len.
-/
import Derived.Test.YtbhhbddmokddeaaWhI
namespace Go.Proofs.Ytbhhbddmokddeaa
open Go.RowKit Go.Maps

/-- The document's wheel at block D: its rows' ids. -/
structure Doc (w : World) (D : Nat) (L : Nat → List Int) : Prop where
  cell : ∀ s, s < 64 → ∃ A c, w.cell? ⟨D, s, none⟩ = some (.slice A (L s).length c) ∧ IsInts w A (L s).length (L s) ∧ ∀ b o, A = some ⟨b, o, none⟩ → HasBlk w b 3
  blk : HasBlk w D 29

theorem Doc.only {w w' : World} {D : Nat} {L : Nat → List Int} {G : Nat → Prop} (h : Doc w D L) (ho : Only G w w') (hD : ¬ G D) (hi : ∀ b, HasBlk w b 3 → ¬ G b) : Doc w' D L := by
  refine ⟨fun s hs => ?_, h.blk.only ho hD⟩
  obtain ⟨A, c, h1, h2, h3⟩ := h.cell s hs
  exact ⟨A, c, (ho.cell h.blk.lt hD).trans h1, h2.only ho fun b o e => hi b (h3 b o e), fun b o e => (h3 b o e).only ho (hi b (h3 b o e))⟩

theorem Doc.below {w w' : World} {D : Nat} {L : Nat → List Int} (h : Doc w D L) (hb : Below w.heap.size w w') : Doc w' D L := h.only (Only.ofBelow (F := fun _ => False) hb) id fun _ _ => id

theorem Doc.drewN {w : World} {D : Nat} {L : Nat → List Int} (h : Doc w D L) (q : Nat) : Doc (w.drewN q) D L := h.only ((Only.refl (fun _ => False) w).drewN q) id fun _ _ => id

set_option maxHeartbeats 800000 in
theorem rwhere_any {w : World} {D : Nat} {L : Nat → List Int} (h : Doc w D L) (hl : ∀ s, s < 64 → (L s).length ≤ 100000) (id : Int) (o : Option Nat) (ho : ∀ s, o = some s → s < 64 ∧ id ∈ L s ∧ ∀ t, t < s → id ∉ L t) (hn : o = none → ∀ s, s < 64 → id ∉ L s) (Q : Ending → World → Prop)
    (hQ : ∀ q, Q (.returned (nv o)) (w.drewN q)) :
    Calls Try.prog 24 #[ptr D, .int .i64 id] w Q := by
  have HQ := Lib.hid hQ
  have HH := Lib.hid h
  have HL := Lib.hid hl
  have HO := Lib.hid ho
  have HN := Lib.hid hn
  clear hQ h hl ho hn
  go_enter Try.func24, Try.ntmps24
  go_wp2_with fail
  go_loopg [6] 64 (fun g s wr => ∃ j q : Nat, j ≤ 64 ∧ g = 64 - j ∧ s = .int .i64 (j : Int) ∧ wr = w.drewN q ∧ Hid (∀ t, t < j → id ∉ L t))
  case atStart => exact ⟨0, 0, by omega, rfl, rfl, rfl, Lib.hid fun t ht => absurd ht (Nat.not_lt_zero _)⟩
  case round =>
    obtain ⟨j, q, hj, hg, rfl, rfl, HP⟩ := hrel
    have HG := Lib.hid hg
    clear hg
    by_cases hlt : j < 64
    · obtain ⟨A, c, c0, hv, _⟩ := HH.out.cell j hlt
      have hlen := HL.out j hlt
      have HV := Lib.hid hv
      clear hv
      generalize hLj : L j = l at *
      have HLJ := Lib.hid hLj
      clear hLj
      have hj0 : (0 : Int) ≤ (j : Int) := by omega
      have hj1 : (j : Int) < 64 := by omega
      go_wp2_with fail
      go_loopg [7] l.length (fun g i wi => ∃ k q2 : Nat, k ≤ l.length ∧ g = l.length - k ∧ i = .int .i64 (k : Int) ∧ wi = w.drewN q2 ∧ Hid (∀ m, m < k → l.getD m 0 ≠ id))
      case atStart => exact ⟨0, q, Nat.zero_le _, rfl, rfl, rfl, Lib.hid fun m hm => absurd hm (Nat.not_lt_zero _)⟩
      case round =>
        obtain ⟨k, q2, hk, hg2, rfl, rfl, HK⟩ := hrel
        have HG2 := Lib.hid hg2
        clear hg2
        by_cases hkl : k < l.length
        · obtain ⟨b, o', rfl, _, d0⟩ := HV.out.at_ hkl
          have HMEM : Hid (l.getD k 0 ∈ l) := Lib.hid (by rw [List.getD_eq_getElem?_getD, List.getElem?_eq_getElem hkl]; exact List.getElem_mem hkl)
          have HK2 := HK
          generalize hx : l.getD k 0 = x at *
          have HX := Lib.hid hx
          clear hx
          by_cases hxi : x = id
          · subst hxi
            have ho : o = some j := by
              cases o with
              | none => exact absurd (HLJ.out.symm ▸ HMEM.out) (HN.out rfl j hlt)
              | some s =>
                obtain ⟨g1, g2, g3⟩ := HO.out s rfl
                rcases Nat.lt_trichotomy s j with h | h | h
                · exact absurd g2 (HP.out s h)
                · rw [h]
                · exact absurd (HLJ.out.symm ▸ HMEM.out) (g3 j h)
            have hfin := HQ.out
            rw [ho] at hfin
            have HF := Lib.hid hfin
            clear hfin ho
            go_wp2_with fail
            exact HF.out _
          · have hb : (x == id) = false := by simpa using hxi
            have HNE := Lib.hid hxi
            clear hxi
            go_wp2_with fail
            go_roundg (l.length - (k + 1))
            case measure => have := HG2.out; omega
            case rel => exact ⟨k + 1, q2, by omega, rfl, by go_num, rfl, Lib.hid fun m hm => by
              by_cases e : m = k
              · rw [e, HX.out]; exact HNE.out
              · exact HK.out m (by omega)⟩
        · have HALL : Hid (id ∉ l) := Lib.hid fun hin => by
            obtain ⟨m, hm, e⟩ := List.mem_iff_getElem.1 hin
            exact HK.out m (by omega) (by rw [List.getD_eq_getElem?_getD, List.getElem?_eq_getElem hm]; exact e)
          go_wp2_with fail
          go_roundg (64 - (j + 1))
          case measure => have := HG.out; omega
          case rel => exact ⟨j + 1, q2, by omega, rfl, by go_num, rfl, Lib.hid fun t ht => by
            by_cases e : t = j
            · rw [e, HLJ.out]; exact HALL.out
            · exact HP.out t (by omega)⟩
    · have ho : o = none := by
        cases o with
        | none => rfl
        | some s =>
          obtain ⟨g1, g2, _⟩ := HO.out s rfl
          exact absurd g2 (HP.out s (by omega))
      have hfin := HQ.out
      rw [ho] at hfin
      have HF := Lib.hid hfin
      clear hfin ho
      go_wp2_with fail
      exact HF.out _

theorem rrow_bad {w : World} {D : Nat} {s : Int} (h : mayB s = false) (Q : Ending → World → Prop) (hQ : Q (.returned (.slice none 0 0)) w) :
    Calls Try.prog 25 #[ptr D, .int .i64 s] w Q := by
  have HQ := Lib.hid hQ
  clear hQ
  simp only [mayB, decide_eq_false_iff_not] at h
  have hc : s < 0 ∨ (0 ≤ s ∧ 63 < s) := by omega
  clear h
  rcases hc with h1 | ⟨h1, h2⟩
  all_goals
    go_enter Try.func25, Try.ntmps25
    go_wp2
    all_goals exact HQ.out

theorem rrow_ok {w : World} {D s : Nat} {L : Nat → List Int} (h : Doc w D L) (hs : s < 64) (Q : Ending → World → Prop) (hQ : ∀ A c, w.cell? ⟨D, s, none⟩ = some (.slice A (L s).length c) → IsInts w A (L s).length (L s) → (∀ b o, A = some ⟨b, o, none⟩ → HasBlk w b 3) → Q (.returned (.slice A (L s).length c)) w) :
    Calls Try.prog 25 #[ptr D, .int .i64 (s : Int)] w Q := by
  obtain ⟨A, c, c0, hv, hb⟩ := h.cell s hs
  have HF := Lib.hid (hQ A c c0 hv hb)
  have h0 : (0 : Int) ≤ (s : Int) := by omega
  have h1 : (s : Int) < 64 := by omega
  clear hQ h hv hb
  go_enter Try.func25, Try.ntmps25
  go_wp2
  exact HF.out

theorem rlen_any {w : World} {D : Nat} {L : Nat → List Int} (h : Doc w D L) (hl : ∀ s, s < 64 → (L s).length ≤ 100000) (Q : Ending → World → Prop) (hQ : Q (.returned (.int .i64 (sumTo (fun s => (L s).length) 64 : Nat))) w) :
    Calls Try.prog 14 #[ptr D] w Q := by
  have HQ := Lib.hid hQ
  have HH := Lib.hid h
  have HL := Lib.hid hl
  clear hQ h hl
  go_enter Try.func14, Try.ntmps14
  go_wp2_with fail
  go_loopg [3, 4] 64 (fun g s i wr => ∃ j : Nat, j ≤ 64 ∧ g = 64 - j ∧ i = .int .i64 (j : Int) ∧ s = .int .i64 (sumTo (fun s => (L s).length) j : Nat) ∧ wr = w ∧ sumTo (fun s => (L s).length) j ≤ 100000 * j)
  case atStart => exact ⟨0, by omega, rfl, rfl, rfl, rfl, by simp [sumTo]⟩
  case round =>
    obtain ⟨j, hj, hg, rfl, rfl, rfl, hle⟩ := hrel
    have HG := Lib.hid hg
    clear hg
    by_cases hlt : j < 64
    · obtain ⟨A, c, c0, _, _⟩ := HH.out.cell j hlt
      have hlen := HL.out j hlt
      have HS := Lib.hid (show sumTo (fun s => (L s).length) (j + 1) = sumTo (fun s => (L s).length) j + (L j).length from rfl)
      have hj0 : (0 : Int) ≤ (j : Int) := by omega
      have hj1 : (j : Int) < 64 := by omega
      generalize (L j).length = x at *
      generalize sumTo (fun s => (L s).length) j = t at *
      go_wp2_with fail
      go_roundg (64 - (j + 1))
      case measure => have := HG.out; omega
      case rel => exact ⟨j + 1, by omega, rfl, by go_num, by rw [HS.out]; go_num, rfl, by rw [HS.out]; omega⟩
    · obtain rfl : j = 64 := by omega
      generalize sumTo (fun s => (L s).length) 64 = t at *
      go_wp2_with fail
      exact HQ.out
end Go.Proofs.Ytbhhbddmokddeaa
