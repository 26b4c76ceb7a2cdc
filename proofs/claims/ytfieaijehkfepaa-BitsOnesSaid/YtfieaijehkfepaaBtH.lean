/-
  Pack.
-/
import Derived.Test.YtfieaijehkfepaaBtG
import Derived.OwnWalk
namespace Go.Proofs.Ytfieaijehkfepaa
open Go.RowKit Go.Maps

/-- How many words that many bits take. -/
def nW (n : Nat) : Nat := (n + 63) / 64

/-- The words after the first j values. -/
def packTo (ks : List Int) (vs : List Nat) : Nat → List Nat
  | 0 => List.replicate (nW (off ks ks.length)) 0
  | j + 1 => setF (packTo ks vs j) (off ks j) (ks.getD j 0).toNat (vs.getD j 0)

theorem packTo_length (ks : List Int) (vs : List Nat) : ∀ j, (packTo ks vs j).length = nW (off ks ks.length)
  | 0 => by simp [packTo]
  | j + 1 => by rw [packTo, setF_length, packTo_length ks vs j]

theorem packTo_bnd (ks : List Int) (vs : List Nat) : ∀ j, Bnd (packTo ks vs j)
  | 0 => by
    intro x hx
    rw [packTo] at hx
    rw [(List.mem_replicate.1 hx).2]
    decide
  | j + 1 => setF_bnd _ _ _ _

def fitsAt (ks : List Int) (vs : List Nat) (j : Nat) : Bool := decide (vs.getD j 0 < 2 ^ (ks.getD j 0).toNat)

def fitsTo (ks : List Int) (vs : List Nat) (j : Nat) : Bool := (List.range j).all (fitsAt ks vs)

theorem fitsTo_succ (ks : List Int) (vs : List Nat) (j : Nat) : fitsTo ks vs (j + 1) = (fitsTo ks vs j && fitsAt ks vs j) := by
  simp [fitsTo, List.range_succ]

theorem fitsTo_bad {ks : List Int} {vs : List Nat} {j n : Nat} (hj : j < n) (h : fitsAt ks vs j = false) : fitsTo ks vs n = false := by
  rw [fitsTo, List.all_eq_false]
  exact ⟨j, List.mem_range.2 hj, by rw [h]; decide⟩

theorem off_mono {ks : List Int} {j : Nat} : ∀ {m}, j + m ≤ ks.length → off ks j ≤ off ks (j + m)
  | 0, _ => Nat.le_refl _
  | m + 1, h => by
    have := off_mono (ks := ks) (j := j) (m := m) (by omega)
    rw [← Nat.add_assoc, off_succ (by omega)]
    omega

def packO (ks : List Int) (vs : List Nat) : Option (List Nat) :=
  if ks.length = vs.length ∧ ks.length ≤ 100 ∧ okW ks = true ∧ fitsTo ks vs ks.length = true then some (packTo ks vs ks.length) else none

theorem nW_fit (n : Nat) : n ≤ 64 * nW n := by unfold nW; omega

theorem packTo_step {ks : List Int} {vs : List Nat} {j k : Nat} (hj : j < ks.length) (hk : ks.getD j 0 = (k : Int)) (hk64 : k ≤ 64) : setO (packTo ks vs j) (off ks j : Nat) (k : Int) (vs.getD j 0) = some (packTo ks vs (j + 1)) := by
  have h1 := off_succ hj
  have h2 := off_mono (ks := ks) (j := j + 1) (m := ks.length - (j + 1)) (by omega)
  rw [show j + 1 + (ks.length - (j + 1)) = ks.length by omega] at h2
  have h3 := nW_fit (off ks ks.length)
  rw [hk] at h1
  unfold setO
  rw [if_pos]
  · rw [packTo, hk]; rfl
  · rw [packTo_length]
    simp only [thB, decide_eq_true_iff]
    simp only [Int.toNat_natCast] at h1
    omega

theorem andn_mask {v k : Nat} (hv : v < 2 ^ 64) : andn v (2 ^ k - 1) = 0 ↔ v < 2 ^ k := by
  constructor
  · intro h
    refine Nat.lt_pow_two_of_testBit _ fun j hj => ?_
    have := testBit_andn (b := 2 ^ k - 1) (j := j) hv
    rw [h, Nat.testBit_two_pow_sub_one] at this
    have hkj : ¬ j < k := by omega
    simpa [hkj] using this.symm
  · intro h
    refine Nat.eq_of_testBit_eq fun j => ?_
    rw [testBit_andn hv, Nat.testBit_two_pow_sub_one, Nat.zero_testBit]
    by_cases hj : j < k
    · simp [hj]
    · rw [Nat.testBit_lt_two_pow (Nat.lt_of_lt_of_le h (Nat.pow_le_pow_right (by omega) (by omega)))]
      rfl

theorem shr_zero {v k : Nat} : v >>> k = 0 ↔ v < 2 ^ k := by
  rw [Nat.shiftRight_eq_div_pow, Nat.div_eq_zero_iff]
  have := Nat.two_pow_pos k
  omega

/-- 'make([]T, n)', of elements of one cell. -/
theorem wpList_mk {P : Program} {w : World} {ops : Array Oper} {rest : List Oper} {o : Oper} {a : Act} {Q : Exit → Act → World → Prop} (hg : o.guard = none) (l c : Operand) (t : TypeId) (ho : o.op = Op.makeSlice t l c)
    (e : TypeId) {z : Value} {bytes : Nat} (ht : P.underlying t = some (.slice e)) (hi : (P.info? e).map (fun i => (i.zero, i.size, i.bytes)) = some (some z, 1, bytes)) (hz : z.cells = #[z])
    (L : Int) (n : Nat) (hl : a.eval l = .int .i64 L) (hc : a.eval c = .int .i64 L) (hL : L = (n : Int)) (hb : bytes * n ≤ 281474976710656) (hn : n ≤ maxLen)
    (h : ∀ w', w'.ownsRow w.heap.size e 1 (.slice (some ⟨w.heap.size, 0, none⟩) n n) n (List.replicate n z) → Below w.heap.size w w' → wpList P ops Q rest (a.put o.dst (.slice (some ⟨w.heap.size, 0, none⟩) n n)) w') : wpList P ops Q (o :: rest) a w := by
  obtain ⟨i, hi', hz', hsz, hby⟩ := info_parts hi
  refine wpList_make_full w hg l c t ho w.heap.size e i z 1 ht hi' hz' hsz .i64 .i64 L L n hl hc hL hL (by rw [hby]; exact hb) hn (Nat.le_refl _) fun w' h1 h2 => ?_
  rw [hz, Nat.mul_one, toList_madeCells_one] at h1
  exact h w' h1 (Only.below (F := fun _ => False) ((Only.refl _ w).grown h2 (fun k hk => by cases hk)) (fun _ hi => hi.elim) (Nat.le_refl _))

def pv (A : Option Addr) (m c : Nat) (b : Bool) : Value := .tuple #[.slice A m c, .bool b]

set_option maxHeartbeats 800000 in
theorem pack_any {w : World} {A B : Option Addr} {n m c d : Nat} {ks : List Int} {vs : List Nat} (hx : IsInts w A n ks) (hv : IsWords w B m vs) (hvb : Bnd vs) (hn : n ≤ 10000) (hm : m ≤ 10000) (Q : Ending → World → Prop)
    (hQ : ∀ w' A' l c', IsWords w' A' l ((packO ks vs).getD []) → l ≤ 10000 → Below w.heap.size w w' → Q (.returned (pv A' l c' (packO ks vs).isSome)) w') :
    Calls Try.prog 20 #[.slice A n c, .slice B m d] w Q := by
  have hs := Lib.hid (size_any (c := c) hx hn)
  have HQ := Lib.hid hQ
  have HX := Lib.hid hx
  have HV := Lib.hid hv
  have HVB := Lib.hid hvb
  have hl1 := hx.len
  have hl2 := hv.len
  have HL := Lib.hid (And.intro hl1 hl2)
  clear hQ hx hv hl1 hl2 hvb
  by_cases hnm : n = m
  · subst hnm
    go_enter Try.func20, Try.ntmps20
    go_wp2_with fail
    refine hs.out _ ?_
    cases hok : okW ks with
    | false =>
      have hp : packO ks vs = none := by unfold packO; rw [if_neg]; rw [hok]; simp
      have hfin := HQ.out
      rw [hp] at hfin
      have hfin := hfin w none 0 0 (IsVals.nil _ _) (Nat.zero_le _) (Below.refl _ _)
      have HF := Lib.hid hfin
      clear hfin hp hok
      rw [if_neg (by decide)]
      go_wp2_with fail
      exact HF.out
    | true =>
      rw [if_pos rfl]
      by_cases h100 : n ≤ 100
      · have hN := off_le (ks := ks) (j := n) (by rw [HL.out.1]; exact Nat.le_refl _) (by rw [List.take_of_length_le (by rw [HL.out.1]; exact Nat.le_refl _)]; exact hok)
        have hoff : off ks ks.length = off ks n := by rw [HL.out.1]
        have HOFF := Lib.hid hoff
        have HOK := Lib.hid hok
        clear hoff hok
        generalize hNN : off ks n = N at *
        have HNN := Lib.hid hNN
        clear hNN
        rw [decide_eq_true h100]
        have hNW : nW N ≤ 10000 := by unfold nW; omega
        have hmk : ((N : Int) + 64 - 1) / 64 = ((nW N : Nat) : Int) := by unfold nW; omega
        go_wp2_with (at_make; refine wpList_mk rfl (.tmp 27) (.tmp 27) 22 rfl 24 Try.underlying22 infoWord rfl _ (nW N) rfl rfl hmk (by omega) (by unfold maxLen; omega) ?_; intro w1 ho1 hb1; have HO1 := Lib.hid ho1; have HB1 := Lib.hid hb1; clear ho1 hb1)
        have HIN : Hid (IsWords w1 (some ⟨w.heap.size, 0, none⟩) (nW N) (packTo ks vs 0)) := Lib.hid (by
          obtain ⟨_, _, e, hv1, _⟩ := vals_of_own HO1.out
          obtain ⟨rfl, rfl⟩ : some (⟨w.heap.size, 0, none⟩ : Addr) = _ ∧ nW N = _ := by simpa using e
          rw [packTo, HOFF.out]
          have : uvals (List.replicate (nW N) 0) = List.replicate (nW N) (Value.int .u64 0) := by simp [uvals]
          unfold IsWords
          rw [this]
          exact hv1)
        generalize nW N = W at *
        clear HO1 hmk
        go_loopg [8, 9, 31] n (fun g r s i wr => ∃ (j l c' : Nat) (A' : Option Addr), j ≤ n ∧ g = n - j ∧ i = .int .i64 (j : Int) ∧ s = .int .i64 (off ks j : Nat) ∧ r = .slice A' l c' ∧ l ≤ 10000 ∧ Hid (IsWords wr A' l (packTo ks vs j) ∧ Below w.heap.size w wr ∧ fitsTo ks vs j = true))
        case atStart => exact ⟨0, _, _, _, Nat.zero_le _, rfl, rfl, rfl, rfl, hNW, Lib.hid ⟨HIN.out, HB1.out, rfl⟩⟩
        case round =>
          obtain ⟨j, l, c', A', hj, hg, rfl, rfl, rfl, hl, HR⟩ := hrel
          have HG := Lib.hid hg
          clear hg
          by_cases hlt : j < n
          · obtain ⟨k, hk, hk64⟩ := okW_at HOK.out (j := j) (by rw [HL.out.1]; exact hlt)
            obtain ⟨b, o, rfl, hb0, c0⟩ := IsInts.at_ (HX.out.below HR.out.2.1) hlt
            obtain ⟨b2, o2, rfl, hb2, c2⟩ := IsWords.at_ (HV.out.below HR.out.2.1) hlt
            rw [hk] at c0
            have hsucc := off_succ (ks := ks) (j := j) (by rw [HL.out.1]; exact hlt)
            rw [hk, Int.toNat_natCast] at hsucc
            have hoj := off_mono (ks := ks) (j := j + 1) (m := n - (j + 1)) (by rw [HL.out.1]; omega)
            rw [show j + 1 + (n - (j + 1)) = n by omega, HNN.out] at hoj
            have hoj1 : off ks j + k ≤ N := by omega
            have HSUCC := Lib.hid hsucc
            have hvb := HVB.out.getD j
            have hfa : fitsAt ks vs j = decide (vs.getD j 0 < 2 ^ k) := by unfold fitsAt; rw [hk, Int.toNat_natCast]
            have HST := Lib.hid (packTo_step (vs := vs) (by rw [HL.out.1]; exact hlt) hk hk64)
            have HBAD := Lib.hid (fitsTo_bad (ks := ks) (vs := vs) hlt)
            have HFS := Lib.hid (fitsTo_succ ks vs j)
            have hm := Lib.hid (fun W => mask_k (w := W) hk64)
            have hml := msk_lt hk64
            have hz := andn_mask (k := k) hvb
            clear hk hsucc hoj
            have HPB := Lib.hid (packTo_bnd ks vs j)
            generalize vs.getD j 0 = v at *
            generalize off ks j = s at *
            have han := andn64 hvb hml
            have HVL := Lib.hid hvb
            have HSET := Lib.hid (fun (W : World) (A'' : Option Addr) (n' c' : Nat) hh => set_any (w := W) (A := A'') (a := (s : Int)) (k := (k : Int)) (n := n') (c := c') hh HPB.out hvb)
            generalize andn v (2 ^ k - 1) = z at *
            generalize 2 ^ k - 1 = m at *
            have HFA := Lib.hid hfa
            have HZ := Lib.hid hz
            clear hvb hml hfa hz
            by_cases hz0 : z = 0
            · have hb1 : ((z : Int) == 0) = true := by rw [beq_iff_eq]; omega
              have HZ0 := Lib.hid hz0
              clear hz0
              go_wp2_with fail
              go_region_with (go_at_call 25; refine hm.out _ _ ?_)
              all_goals
                go_wp2_with fail
                refine HSET.out _ _ _ _ HR.out.1.drew (by omega) _ (fun w3 A3 l3 c3 hi3 hl3 hb3 => ?_)
                rw [HST.out] at hi3 ⊢
                simp only [Option.getD_some, Option.isSome_some] at hi3 ⊢
                have HI3 := Lib.hid (And.intro hi3 hb3)
                clear hi3 hb3
                go_wp2_with fail
                go_roundg (n - (j + 1))
                case measure => have := HG.out; omega
                case rel => exact ⟨j + 1, l3, c3, A3, by omega, rfl, by go_num, by rw [HSUCC.out]; go_num, rfl, by omega, Lib.hid ⟨HI3.out.1, HR.out.2.1.drew.trans (HI3.out.2.mono HR.out.2.1.size), by rw [HFS.out, HR.out.2.2, HFA.out, decide_eq_true (HZ.out.1 HZ0.out)]; rfl⟩⟩
            · have hb1 : ((z : Int) == 0) = false := by rw [beq_eq_false_iff_ne]; omega
              have hp : packO ks vs = none := by
                unfold packO
                rw [if_neg]
                rw [HL.out.1, HBAD.out (by rw [HFA.out]; exact decide_eq_false fun h => hz0 (HZ.out.2 h))]
                simp
              have hfin := HQ.out
              rw [hp] at hfin
              have HF := Lib.hid hfin
              clear hfin hp hz0
              go_wp2_with fail
              go_region_with (go_at_call 25; refine hm.out _ _ ?_)
              all_goals
                go_wp2_with fail
                exact HF.out _ none 0 0 (IsVals.nil _ _) (Nat.zero_le _) HR.out.2.1.drew
          · have he : j = n := by omega
            subst he
            have hp : packO ks vs = some (packTo ks vs j) := by
              unfold packO
              rw [if_pos]
              · rw [HL.out.1]
              · rw [HL.out.1, HL.out.2]; exact ⟨rfl, h100, HOK.out, HR.out.2.2⟩
            have hfin := HQ.out
            rw [hp] at hfin
            have HF := Lib.hid hfin
            clear hfin hp
            generalize off ks j = s at *
            go_wp2_with fail
            exact HF.out _ _ _ _ HR.out.1 hl HR.out.2.1
      · have hp : packO ks vs = none := by unfold packO; rw [if_neg]; rw [HL.out.1]; omega
        have hfin := HQ.out
        rw [hp] at hfin
        have hfin := hfin w none 0 0 (IsVals.nil _ _) (Nat.zero_le _) (Below.refl _ _)
        have HF := Lib.hid hfin
        clear hfin hp hok
        rw [decide_eq_false h100]
        generalize off ks n = N at *
        go_wp2_with fail
        exact HF.out
  · have hp : packO ks vs = none := by unfold packO; rw [if_neg]; rw [HL.out.1, HL.out.2]; exact fun h => hnm h.1
    have hfin := HQ.out
    rw [hp] at hfin
    have hfin := hfin w none 0 0 (IsVals.nil _ _) (Nat.zero_le _) (Below.refl _ _)
    have HF := Lib.hid hfin
    have hb : ((n : Int) == (m : Int)) = false := by rw [beq_eq_false_iff_ne]; omega
    clear hfin hp
    go_enter Try.func20, Try.ntmps20
    go_wp2_with fail
    exact HF.out
end Go.Proofs.Ytfieaijehkfepaa
