/-
  Unpack.
-/
import Derived.Test.YtfieaijehkfepaaBtI
namespace Go.Proofs.Ytfieaijehkfepaa
open Go.RowKit Go.Maps

/-- The first j fields. -/
def fields (ks : List Int) (ws : List Nat) : Nat → List Nat
  | 0 => []
  | j + 1 => fields ks ws j ++ [getF ws (off ks j) (ks.getD j 0).toNat]

theorem fields_length (ks : List Int) (ws : List Nat) : ∀ j, (fields ks ws j).length = j
  | 0 => rfl
  | j + 1 => by rw [fields, List.length_append, fields_length ks ws j]; rfl

theorem fields_getD (ks : List Int) (ws : List Nat) {j : Nat} : ∀ {m}, j < m → (fields ks ws m).getD j 0 = getF ws (off ks j) (ks.getD j 0).toNat
  | m + 1, h => by
    rw [fields, List.getD_eq_getElem?_getD]
    rcases Nat.lt_or_ge j m with h1 | h1
    · rw [List.getElem?_append_left (by rw [fields_length]; exact h1), ← List.getD_eq_getElem?_getD, fields_getD ks ws h1]
    · obtain rfl : j = m := by omega
      rw [List.getElem?_append_right (by rw [fields_length]; exact Nat.le_refl _), fields_length, Nat.sub_self]
      rfl

def unpackO (ks : List Int) (ws : List Nat) : Option (List Nat) :=
  if ks.length ≤ 100 ∧ okW ks = true ∧ ws.length = nW (off ks ks.length) ∧ nextB ws (off ks ks.length) = none then some (fields ks ws ks.length) else none

theorem fields_step {ks : List Int} {ws : List Nat} {j k : Nat} (hj : j < ks.length) (hk : ks.getD j 0 = (k : Int)) (hk64 : k ≤ 64) (hw : ws.length = nW (off ks ks.length)) : getO ws (off ks j : Nat) (k : Int) = some (getF ws (off ks j) k) := by
  have h1 := off_succ hj
  have h2 := off_mono (ks := ks) (j := j + 1) (m := ks.length - (j + 1)) (by omega)
  rw [show j + 1 + (ks.length - (j + 1)) = ks.length by omega] at h2
  have h3 := nW_fit (off ks ks.length)
  rw [hk] at h1
  unfold getO
  rw [if_pos]
  · rfl
  · rw [hw]
    simp only [thB, decide_eq_true_iff]
    simp only [Int.toNat_natCast] at h1
    omega

theorem getF_64 {ws : List Nat} {a k : Nat} (hk : k ≤ 64) : getF ws a k < 2 ^ 64 := Nat.lt_of_lt_of_le (getF_lt ws a k) (Nat.pow_le_pow_right (by omega) hk)

set_option maxHeartbeats 1600000 in
theorem unpack_any {w : World} {A B : Option Addr} {n m c d : Nat} {ks : List Int} {ws : List Nat} (hx : IsInts w A n ks) (hv : IsWords w B m ws) (hvb : Bnd ws) (hn : n ≤ 10000) (hm : m ≤ 10000) (Q : Ending → World → Prop)
    (hQ : ∀ w' A' l c', IsWords w' A' l ((unpackO ks ws).getD []) → l ≤ 10000 → Below w.heap.size w w' → Q (.returned (pv A' l c' (unpackO ks ws).isSome)) w') :
    Calls Try.prog 22 #[.slice A n c, .slice B m d] w Q := by
  have hs := Lib.hid (size_any (c := c) hx hn)
  have HQ := Lib.hid hQ
  have HX := Lib.hid hx
  have HV := Lib.hid hv
  have HVB := Lib.hid hvb
  have hl1 := hx.len
  have hl2 := hv.len
  have HL := Lib.hid (And.intro hl1 hl2)
  clear hQ hx hv hl1 hl2 hvb
  have hNONE : unpackO ks ws = none → Hid (∀ w', Below w.heap.size w w' → Q (.returned (.tuple #[.slice none 0 0, .bool false])) w') := fun hp => Lib.hid (by
    have hfin := HQ.out
    rw [hp] at hfin
    exact fun w' hb => hfin w' none 0 0 (IsVals.nil _ _) (Nat.zero_le _) hb)
  have HNONE := Lib.hid hNONE
  clear hNONE
  go_enter Try.func22, Try.ntmps22
  go_wp2_with fail
  refine hs.out _ ?_
  cases hok : okW ks with
  | false =>
    have HF := HNONE.out (by unfold unpackO; rw [if_neg]; rw [hok]; simp)
    clear hok
    rw [if_neg (by decide)]
    go_wp2_with fail
    exact HF.out _ (Below.refl _ _)
  | true =>
    rw [if_pos rfl]
    have hN := off_le (ks := ks) (j := n) (by rw [HL.out.1]; exact Nat.le_refl _) (by rw [List.take_of_length_le (by rw [HL.out.1]; exact Nat.le_refl _)]; exact hok)
    have hoff : off ks ks.length = off ks n := by rw [HL.out.1]
    have HOFF := Lib.hid hoff
    have HOK := Lib.hid hok
    clear hoff hok
    generalize hNN : off ks n = N at *
    have HNN := Lib.hid hNN
    clear hNN
    have hnw : ((N : Int) + 64 - 1) / 64 = ((nW N : Nat) : Int) := by unfold nW; omega
    by_cases h100 : n ≤ 100
    · rw [decide_eq_true h100]
      by_cases hmw : m = nW N
      · have hb1 : ((m : Int) == ((N : Int) + 64 - 1) / 64) = true := by rw [hnw, beq_iff_eq]; omega
        have hb2 : ((m : Int) != ((N : Int) + 64 - 1) / 64) = false := by rw [hnw, hmw]; exact bne_self_eq_false _
        have hnx := Lib.hid (next_any (c := d) HV.out HVB.out (by omega) (N : Int) N (by omega) (by omega))
        have HMW := Lib.hid (show ws.length = nW (off ks ks.length) by rw [HL.out.2, HOFF.out]; exact hmw)
        clear hnw hmw
        cases hnb : nextB ws N with
        | some p =>
          rw [hnb] at hnx
          have HF := HNONE.out (by unfold unpackO; rw [if_neg]; rw [HOFF.out, hnb]; simp)
          clear hnb
          go_wp2_with fail
          refine hnx.out _ ?_
          unfold nv
          go_wp2_with fail
          exact HF.out _ (Below.refl _ _)
        | none =>
          rw [hnb] at hnx
          have hp : unpackO ks ws = some (fields ks ws n) := by
            unfold unpackO
            rw [if_pos ⟨by rw [HL.out.1]; exact h100, HOK.out, HMW.out, by rw [HOFF.out]; exact hnb⟩, HL.out.1]
          have hfin := HQ.out
          rw [hp] at hfin
          have HF := Lib.hid hfin
          clear hnb hfin hp
          go_wp2_with fail
          refine hnx.out _ ?_
          unfold nv
          go_wp2_with fail
          go_loopg [10, 11, 41] n (fun g r s i wr => ∃ (j c' : Nat) (A' : Option Addr), j ≤ n ∧ g = n - j ∧ i = .int .i64 (j : Int) ∧ s = .int .i64 (off ks j : Nat) ∧ r = .slice A' j c' ∧ Hid (wr.ownsRow w.heap.size 24 1 (.slice A' j c') j (uvals (fields ks ws j)) ∧ Below w.heap.size w wr))
          case atStart => exact ⟨0, _, _, Nat.zero_le _, rfl, rfl, rfl, rfl, Lib.hid ⟨World.ownsRow_nil _ _ _ _, Below.refl _ _⟩⟩
          case round =>
            obtain ⟨j, c', A', hj, hg, rfl, rfl, rfl, HR⟩ := hrel
            have HG := Lib.hid hg
            clear hg
            by_cases hlt : j < n
            · obtain ⟨k, hk, hk64⟩ := okW_at HOK.out (j := j) (by rw [HL.out.1]; exact hlt)
              obtain ⟨b, o, rfl, hb0, c0⟩ := IsInts.at_ (HX.out.below HR.out.2) hlt
              rw [hk] at c0
              have hsucc := off_succ (ks := ks) (j := j) (by rw [HL.out.1]; exact hlt)
              rw [hk, Int.toNat_natCast] at hsucc
              have hoj := off_mono (ks := ks) (j := j + 1) (m := n - (j + 1)) (by rw [HL.out.1]; omega)
              rw [show j + 1 + (n - (j + 1)) = n by omega, HNN.out] at hoj
              have hoj1 : off ks j + k ≤ N := by omega
              have HSUCC := Lib.hid hsucc
              have hfs : fields ks ws (j + 1) = fields ks ws j ++ [getF ws (off ks j) k] := by rw [fields, hk, Int.toNat_natCast]
              have HST := fields_step (ws := ws) (by rw [HL.out.1]; exact hlt) hk hk64 HMW.out
              have HGET := get_any (a := ((off ks j : Nat) : Int)) (k := (k : Int)) (c := d) (HV.out.below HR.out.2) HVB.out (by omega)
              rw [HST] at HGET
              have HGT := Lib.hid HGET
              have HFS := Lib.hid hfs
              have hsz := HR.out.2.size
              clear hk hsucc hoj hfs HGET HST
              generalize off ks j = s at *
              generalize getF ws s k = x at *
              go_wp2_with fail
              refine HGT.out _ ?_
              unfold gv
              go_wp2_with (at_builtin; refine wpList_app rfl (.tmp 52) (.tmp 54) 22 rfl w.heap.size 24 Try.underlying22 infoWord rfl (.slice A' j c') j _ rfl (HR.out.1.alloc _) (some ⟨wr.heap.size, 0, none⟩) 1 1 [.int .u64 (x : Int)] rfl (vals_one _ _ _) (by simp [Value.oneCell']) (by unfold maxLen; omega) (by omega) (by simp; omega) ?_; intro A1 c1 w1 ho1 hg1; have HO1 := Lib.hid ho1; have HB1 := Lib.hid (own_grown (HR.out.2.alloc hsz _) (HR.out.1.alloc _) hg1 (by simp; omega)); clear ho1 hg1)
              go_roundg (n - (j + 1))
              case measure => have := HG.out; omega
              case rel => exact ⟨j + 1, c1, A1, by omega, rfl, by go_num, by rw [HSUCC.out]; go_num, rfl, Lib.hid ⟨by rw [HFS.out, uvals_append]; exact HO1.out, HB1.out⟩⟩
            · have he : j = n := by omega
              subst he
              generalize off ks j = s at *
              go_wp2_with fail
              exact HF.out _ _ _ _ (by
                obtain ⟨_, _, e, hv1, _⟩ := vals_of_own HR.out.1
                obtain ⟨rfl, rfl⟩ : A' = _ ∧ c' = _ := by simpa using e
                exact hv1) (by omega) HR.out.2
      · have HF := HNONE.out (by unfold unpackO; rw [if_neg]; rw [HOFF.out, HL.out.2]; exact fun h => hmw h.2.2.1)
        have hb1 : ((m : Int) == ((N : Int) + 64 - 1) / 64) = false := by rw [hnw, beq_eq_false_iff_ne]; omega
        have hb2 : ((m : Int) != ((N : Int) + 64 - 1) / 64) = true := by rw [hnw, bne_iff_ne]; omega
        clear hnw hmw
        go_wp2_with fail
        exact HF.out _ (Below.refl _ _)
    · have HF := HNONE.out (by unfold unpackO; rw [if_neg]; rw [HL.out.1]; exact fun h => h100 h.1)
      rw [decide_eq_false h100]
      clear hnw
      go_wp2_with fail
      exact HF.out _ (Below.refl _ _)
end Go.Proofs.Ytfieaijehkfepaa
