/-
  The document's wheel: Next, Mask, Drop, Empty.
-/
import Derived.Test.YtbhhbddmokddeaaWrA
namespace Go.Proofs.Ytbhhbddmokddeaa
open Go.RowKit Go.Maps

set_option maxHeartbeats 400000 in
theorem rnext_any {w : World} {D : Nat} {L : Nat → List Int} (h : Doc w D L) (f : Int) (a : Nat) (hfa : f.toNat = a) (hf63 : f ≤ 9223372036854775807) (o : Option Nat) (ho : ∀ s, o = some s → a ≤ s ∧ s < 64 ∧ L s ≠ [] ∧ ∀ t, a ≤ t → t < s → L t = []) (hn : o = none → ∀ s, a ≤ s → s < 64 → L s = []) (Q : Ending → World → Prop)
    (hQ : Q (.returned (nv o)) w) :
    Calls Try.prog 27 #[ptr D, .int .i64 f] w Q := by
  have HQ := Lib.hid hQ
  have HH := Lib.hid h
  have HO := Lib.hid ho
  have HN := Lib.hid hn
  clear hQ h ho hn
  have hmx : max f 0 = (a : Int) := by omega
  have ha63 : a ≤ 9223372036854775807 := by omega
  clear hfa hf63
  go_enter Try.func27, Try.ntmps27
  go_wp2_with fail
  go_loopg [6] (64 - a) (fun g s wr => ∃ j : Nat, a ≤ j ∧ g = 64 - j ∧ s = .int .i64 (j : Int) ∧ wr = w ∧ Hid (∀ t, a ≤ t → t < j → L t = []))
  case atStart => exact ⟨a, Nat.le_refl _, rfl, rfl, rfl, Lib.hid fun t _ _ => by omega⟩
  case round =>
    obtain ⟨j, hj, hg, rfl, rfl, HP⟩ := hrel
    have HG := Lib.hid hg
    clear hg
    by_cases hlt : j < 64
    · obtain ⟨A, c, c0, _, _⟩ := HH.out.cell j hlt
      have hj0 : (0 : Int) ≤ (j : Int) := by omega
      have hj1 : (j : Int) < 64 := by omega
      by_cases he : L j = []
      · have HE := Lib.hid he
        rw [he] at c0
        simp only [List.length_nil] at c0
        clear he
        go_wp2_with fail
        go_roundg (64 - (j + 1))
        case measure => have := HG.out; omega
        case rel => exact ⟨j + 1, by omega, rfl, by go_num, rfl, Lib.hid fun t h1 h2 => by
          by_cases e : t = j
          · rw [e]; exact HE.out
          · exact HP.out t h1 (by omega)⟩
      · have hpos : 0 < (L j).length := List.length_pos_iff.2 he
        have ho : o = some j := by
          cases o with
          | none => exact absurd (HN.out rfl j hj hlt) he
          | some s =>
            obtain ⟨g1, g2, g3, g4⟩ := HO.out s rfl
            rcases Nat.lt_trichotomy s j with h | h | h
            · exact absurd (HP.out s g1 h) g3
            · rw [h]
            · exact absurd (g4 j hj h) he
        have hfin := HQ.out
        rw [ho] at hfin
        have HF := Lib.hid hfin
        clear hfin ho he
        generalize (L j).length = x at *
        go_wp2_with fail
        exact HF.out
    · have ho : o = none := by
        cases o with
        | none => rfl
        | some s =>
          obtain ⟨g1, g2, g3, _⟩ := HO.out s rfl
          exact absurd (HP.out s g1 (by omega)) g3
      have hfin := HQ.out
      rw [ho] at hfin
      have HF := Lib.hid hfin
      clear hfin ho
      go_wp2_with fail
      exact HF.out

def maskL (L : Nat → List Int) (j n : Nat) : Nat := ofB (fun t => !(L (j + t)).isEmpty) n

theorem maskL_cons (L : Nat → List Int) (j n : Nat) : maskL L j (n + 1) = (if (L j).isEmpty then 0 else 1) + 2 * maskL L (j + 1) n := by
  unfold maskL
  rw [ofB_cons]
  have e : (if (!(L (j + 0)).isEmpty) = true then 1 else 0) = if (L j).isEmpty = true then 0 else 1 := by
    rw [Nat.add_zero]
    cases (L j).isEmpty <;> rfl
  rw [e]
  congr 2
  exact ofB_congr fun t _ => by rw [show j + (t + 1) = j + 1 + t by omega]

set_option maxHeartbeats 400000 in
theorem rmask_any {w : World} {D : Nat} {L : Nat → List Int} (h : Doc w D L) (Q : Ending → World → Prop) (hQ : Q (.returned (.int .u64 (maskL L 0 64 : Nat))) w) :
    Calls Try.prog 12 #[ptr D] w Q := by
  have HQ := Lib.hid hQ
  have HH := Lib.hid h
  clear hQ h
  go_enter Try.func12, Try.ntmps12
  go_wp2_with fail
  go_loopg [3, 4] 64 (fun g m i wr => ∃ j : Nat, j ≤ 64 ∧ g = j ∧ i = .int .i64 ((j : Int) - 1) ∧ wr = w ∧ m = .int .u64 (maskL L j (64 - j) : Nat))
  case atStart => exact ⟨64, Nat.le_refl _, rfl, rfl, rfl, rfl⟩
  case round =>
    obtain ⟨j, hj, hg, rfl, rfl, rfl⟩ := hrel
    have HG := Lib.hid hg
    clear hg
    rcases Nat.eq_zero_or_pos j with h0 | h0
    · subst h0
      have hfin := HQ.out
      rw [show maskL L 0 64 = maskL L 0 (64 - 0) from rfl] at hfin
      have HF := Lib.hid hfin
      clear hfin
      generalize maskL L 0 (64 - 0) = r at *
      go_wp2_with fail
      exact HF.out
    · obtain ⟨m, rfl⟩ : ∃ m, j = m + 1 := ⟨j - 1, by omega⟩
      have hcons : maskL L m (64 - m) = (if (L m).isEmpty then 0 else 1) + 2 * maskL L (m + 1) (64 - (m + 1)) := by
        rw [show 64 - m = (64 - (m + 1)) + 1 by omega, maskL_cons]
      have hlt63 : maskL L (m + 1) (64 - (m + 1)) < 2 ^ 63 := Nat.lt_of_lt_of_le (ofB_lt _ _) (Nat.pow_le_pow_right (by omega) (by omega))
      obtain ⟨A, c, c0, _, _⟩ := HH.out.cell m (by omega)
      generalize maskL L (m + 1) (64 - (m + 1)) = N at *
      generalize hNN : maskL L m (64 - m) = N' at *
      have e1 : ∃ X : Nat, IntKind.u64.wrap (2 * (N : Int)) = (X : Int) ∧ X = 2 * N := ⟨2 * N, by rw [IntKind.wrap_u64]; omega, rfl⟩
      obtain ⟨X, e1, hX⟩ := e1
      have ei : ((m + 1 : Nat) : Int) - 1 = (m : Int) := by omega
      have hm0 : (0 : Int) ≤ (m : Int) := by omega
      have hm1 : (m : Int) < 64 := by omega
      have HNN := Lib.hid hNN
      rw [ei]
      by_cases he : L m = []
      · rw [he] at c0 hcons
        simp only [List.length_nil] at c0
        have HX : Hid (X = N') := Lib.hid (by simp at hcons; omega)
        clear hcons hlt63 hNN hX he
        go_wp2_with fail
        go_roundg m
        case measure => have := HG.out; omega
        case rel => exact ⟨m, by omega, rfl, by go_num, rfl, by rw [HNN.out, ← HX.out]⟩
      · have hpos : 0 < (L m).length := List.length_pos_iff.2 he
        have hne : (L m).isEmpty = false := by simpa using he
        rw [hne] at hcons
        have e2 : IntKind.u64.wrap ((X : Int) + 1) = (N' : Int) := by rw [IntKind.wrap_u64]; simp at hcons; omega
        clear hcons hlt63 hNN hX he hne
        generalize (L m).length = x at *
        go_wp2_with fail
        go_roundg m
        case measure => have := HG.out; omega
        case rel => exact ⟨m, by omega, rfl, by go_num, rfl, by rw [HNN.out]⟩

def updL (L : Nat → List Int) (s : Nat) (l : List Int) : Nat → List Int := fun t => if t = s then l else L t

theorem Doc.set_ {w w1 : World} {D s n c : Nat} {A : Option Addr} {L : Nat → List Int} {l : List Int} (h : Doc w1 D L) (ho : Only (fun k => k = D) w w1) (hs : s < 64) (hn : l.length = n) (hv : IsInts w1 A n l) (hb : ∀ b o, A = some ⟨b, o, none⟩ → HasBlk w1 b 3) :
    Doc (w1.setCell ⟨D, s, none⟩ (.slice A n c)) D (updL L s l) ∧ Only (fun k => k = D) w (w1.setCell ⟨D, s, none⟩ (.slice A n c)) := by
  subst hn
  have hne : ∀ b, HasBlk w1 b 3 → ¬ b = D := fun b hb e => by
    subst e
    obtain ⟨_, h1⟩ := hb
    obtain ⟨_, h2⟩ := h.blk
    exact absurd (h1.eq_ h2).1 (by decide)
  have hoo : Only (fun k => k = D) w1 (w1.setCell ⟨D, s, none⟩ (.slice A l.length c)) := (Only.refl (fun k => k = D) w1).setCell (p := ⟨D, s, none⟩) (.inl rfl) _
  refine ⟨⟨fun t ht => ?_, h.blk.setCell _ _⟩, ho.setCell (p := ⟨D, s, none⟩) (.inl rfl) _⟩
  by_cases e : t = s
  · subst e
    obtain ⟨A0, c0, h1, _, _⟩ := h.cell t ht
    refine ⟨A, c, ?_, ?_, fun b o e => (hb b o e).setCell _ _⟩
    · rw [show updL L t l t = l from if_pos rfl]
      exact World.cell?_setCell_same _ _ _ h1
    · rw [show updL L t l t = l from if_pos rfl]
      exact hv.only hoo fun b o e => hne b (hb b o e)
  · obtain ⟨A0, c0, h1, h2, h3⟩ := h.cell t ht
    rw [show updL L s l t = L t from if_neg e]
    refine ⟨A0, c0, (World.cell?_setCell_other _ _ _ _ (by simp only [ne_eq, Addr.mk.injEq]; omega)).trans h1, h2.only hoo fun b o e => hne b (h3 b o e), fun b o e => (h3 b o e).setCell _ _⟩

set_option maxHeartbeats 400000 in
theorem rempty_ok {w : World} {D s : Nat} {L : Nat → List Int} (h : Doc w D L) (hs : s < 64) (Q : Ending → World → Prop) (hQ : ∀ w' A c, Doc w' D (updL L s []) → Only (fun k => k = D) w w' → IsInts w' A (L s).length (L s) → Q (.returned (.slice A (L s).length c)) w') :
    Calls Try.prog 26 #[ptr D, .int .i64 (s : Int)] w Q := by
  have HQ := Lib.hid hQ
  have HH := Lib.hid h
  have h0 : (0 : Int) ≤ (s : Int) := by omega
  have h1 : (s : Int) < 64 := by omega
  have fz := h.blk.frozen s
  have HEND : Hid (∀ A c, w.cell? ⟨D, s, none⟩ = some (.slice A (L s).length c) → IsInts w A (L s).length (L s) → (∀ b o, A = some ⟨b, o, none⟩ → HasBlk w b 3) → Q (.returned (.slice A (L s).length c)) (w.setCell ⟨D, s, none⟩ (.slice none 0 0))) := Lib.hid (by
    intro A c _ hv hb
    obtain ⟨d1, d2⟩ := HH.out.set_ (c := 0) (Only.refl _ _) hs (l := []) rfl (IsVals.nil w none) (fun _ _ e => by cases e)
    refine HQ.out _ A c d1 d2 (hv.only d2 fun b o e => ?_)
    intro e2
    obtain ⟨_, q1⟩ := hb b o e
    obtain ⟨_, q2⟩ := HH.out.blk
    rw [e2] at q1
    exact absurd (q1.eq_ q2).1 (by decide))
  clear hQ h
  go_enter Try.func26, Try.ntmps26
  go_wp2_with fail
  refine rrow_ok HH.out hs _ fun A c c0 hv hb => ?_
  have HV := Lib.hid (And.intro hv hb)
  clear hv hb
  have hEND := Lib.hid (HEND.out A c c0 HV.out.1 HV.out.2)
  by_cases he : L s = []
  · have hq := HQ.out w A c
    have e : Doc w D (updL L s []) := by
      have : updL L s [] = L := by
        funext t
        unfold updL
        split
        · rename_i e; rw [e, he]
        · rfl
      rw [this]; exact HH.out
    have HF := Lib.hid (hq e (Only.refl _ _) HV.out.1)
    clear hq e hEND
    rw [he] at HF c0 ⊢
    simp only [List.length_nil] at HF c0 ⊢
    clear he
    go_wp2_with fail
    exact HF.out
  · have hpos : 0 < (L s).length := List.length_pos_iff.2 he
    clear he HV
    generalize (L s).length = x at *
    go_wp2_with fail
    exact hEND.out
end Go.Proofs.Ytbhhbddmokddeaa
