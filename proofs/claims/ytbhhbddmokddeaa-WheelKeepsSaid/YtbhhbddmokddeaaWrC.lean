/-
  The document's wheel: Drop.
-/
import Derived.Test.YtbhhbddmokddeaaWrB
namespace Go.Proofs.Ytbhhbddmokddeaa
open Go.RowKit Go.Maps

theorem own_blk {w : World} {base n c : Nat} {e : TypeId} {A : Option Addr} {us : List Value} (h : w.ownsRow base e 1 (.slice A n c) n us) : ∀ b o, A = some ⟨b, o, none⟩ → HasBlk w b e := by
  intro b o ea
  subst ea
  rcases h.2 with ⟨hv, _⟩ | ⟨g, cap, cur, hv, hb, hg, _⟩
  · cases hv
  · obtain ⟨⟨rfl, rfl⟩, _⟩ : (b = g ∧ o = 0) ∧ c = cap := by simpa using hv
    exact ⟨cur, hg⟩

def keepL (id : Int) (l : List Int) : List Int := l.filter fun x => !(x == id)

def dropL (o : Option Nat) (L : Nat → List Int) (id : Int) : Nat → List Int :=
  match o with
  | none => L
  | some s => updL L s (keepL id (L s))

set_option maxHeartbeats 800000 in
theorem rdrop_any {w : World} {D : Nat} {L : Nat → List Int} (h : Doc w D L) (hl : ∀ s, s < 64 → (L s).length ≤ 100000) (id : Int) (o : Option Nat) (ho : ∀ s, o = some s → s < 64 ∧ id ∈ L s ∧ ∀ t, t < s → id ∉ L t) (hn : o = none → ∀ s, s < 64 → id ∉ L s) (Q : Ending → World → Prop)
    (hQ : ∀ w', Doc w' D (dropL o L id) → Only (fun k => k = D) w w' → Q (.returned (.bool o.isSome)) w') :
    Calls Try.prog 23 #[ptr D, .int .i64 id] w Q := by
  have HQ := Lib.hid hQ
  have HH := Lib.hid h
  have HW := Lib.hid (rwhere_any h hl id o ho hn)
  have HO := Lib.hid ho
  have HL := Lib.hid hl
  clear hQ h hl ho hn
  cases o with
  | none =>
    go_enter Try.func23, Try.ntmps23
    go_wp2_with fail
    refine HW.out _ fun q => ?_
    unfold nv
    go_wp2_with fail
    exact HQ.out _ (HH.out.drewN q) ((Only.refl _ w).drewN q)
  | some s =>
    obtain ⟨hs, _, _⟩ := HO.out s rfl
    obtain ⟨A, c, c00, hv0, _⟩ := HH.out.cell s hs
    have hlen := HL.out s hs
    have hs0 : (0 : Int) ≤ (s : Int) := by omega
    have hs1 : (s : Int) < 64 := by omega
    have C00 := Lib.hid c00
    have HV0 := Lib.hid hv0
    have hDl := HH.out.blk.lt
    clear c00 hv0
    generalize hLs : L s = l at *
    have HLS := Lib.hid hLs
    clear hLs
    go_enter Try.func23, Try.ntmps23
    go_wp2_with fail
    refine HW.out _ fun q => ?_
    unfold nv
    have c0q : (w.drewN q).cell? ⟨D, s, none⟩ = some (.slice A l.length c) := C00.out
    go_wp2_with fail
    go_loopg [7, 8] l.length (fun g r i wr => ∃ (j a c' : Nat) (A' : Option Addr), j ≤ l.length ∧ g = l.length - j ∧ i = .int .i64 (j : Int) ∧ r = .slice A' a c' ∧ a ≤ j ∧ Hid (wr.ownsRow w.heap.size 3 1 (.slice A' a c') a (ivals (keepL id (l.take j))) ∧ Below w.heap.size w wr))
    case atStart => exact ⟨0, 0, _, _, Nat.zero_le _, rfl, rfl, rfl, Nat.le_refl _, Lib.hid ⟨by simpa [keepL, ivals] using (own_empty (w.drewN q) w.heap.size 3 (Nat.le_refl _)), (Only.below (F := fun _ => False) (((Only.refl _ w).drewN q).alloc _) (fun _ h => h.elim) (Nat.le_refl _))⟩⟩
    case round =>
      obtain ⟨j, a, c', A', hj, hg, rfl, rfl, haj, HR⟩ := hrel
      have HG := Lib.hid hg
      clear hg c0q
      have c0 : wr.cell? ⟨D, s, none⟩ = some (.slice A l.length c) := (HR.out.2.cell (p := ⟨D, s, none⟩) hDl).trans C00.out
      by_cases hlt : j < l.length
      · obtain ⟨b, o', rfl, hb0, d00⟩ := HV0.out.at_ hlt
        have d0 := (HR.out.2.cell (p := ⟨b, o' + j, none⟩) hb0).trans d00
        have hsz := HR.out.2.size
        have htk : Hid (keepL id (l.take (j + 1)) = if l.getD j 0 = id then keepL id (l.take j) else keepL id (l.take j) ++ [l.getD j 0]) := Lib.hid (by
          unfold keepL
          rw [List.take_succ_eq_append_getElem hlt, List.filter_append, List.getD_eq_getElem?_getD, List.getElem?_eq_getElem hlt]
          simp only [Option.getD_some]
          by_cases e : l[j] = id
          · rw [if_pos e]; simp [e]
          · rw [if_neg e]; simp [e])
        clear d00
        generalize l.getD j 0 = x at *
        by_cases hx : x = id
        · subst hx
          have HT : Hid (keepL x (l.take (j + 1)) = keepL x (l.take j)) := Lib.hid (by have := htk.out; rwa [if_pos rfl] at this)
          clear htk
          go_wp2_with fail
          go_roundg (l.length - (j + 1))
          case measure => have := HG.out; omega
          case rel => exact ⟨j + 1, a, c', A', by omega, rfl, by go_num, rfl, by omega, Lib.hid (by rw [HT.out]; exact HR.out)⟩
        · have hb : (x == id) = false := by simpa using hx
          have HT : Hid (ivals (keepL id (l.take (j + 1))) = ivals (keepL id (l.take j)) ++ [.int .i64 x]) := Lib.hid (by have := htk.out; rw [if_neg hx] at this; rw [this, ivals_append]; rfl)
          clear htk hx
          go_wp2_with (at_builtin; refine wpList_app rfl (.tmp 40) (.tmp 50) 26 rfl w.heap.size 3 Try.underlying26 infoInt rfl (.slice A' a c') a _ rfl (HR.out.1.alloc _) (some ⟨wr.heap.size, 0, none⟩) 1 1 [.int .i64 x] rfl (vals_one _ _ _) (by simp [Value.oneCell']) (by unfold maxLen; omega) (by omega) (by simp; omega) ?_; intro A1 c1 w1 ho1 hg1; have HO1 := Lib.hid ho1; have HB1 := Lib.hid (own_grown (HR.out.2.alloc hsz _) (HR.out.1.alloc _) hg1 (by simp; omega)); clear ho1 hg1)
          go_roundg (l.length - (j + 1))
          case measure => have := HG.out; omega
          case rel => exact ⟨j + 1, a + 1, c1, A1, by omega, rfl, by go_num, rfl, by omega, Lib.hid ⟨by rw [HT.out]; exact HO1.out, HB1.out⟩⟩
      · have he : j = l.length := by omega
        have hfin : Hid (Q (.returned (.bool true)) (wr.setCell ⟨D, s, none⟩ (.slice A' a c'))) := Lib.hid (by
          obtain ⟨h1, hb1⟩ := HR.out
          rw [he, List.take_length] at h1
          have hv : IsInts wr A' a (keepL id l) := by
            obtain ⟨_, _, e, hv1, _⟩ := vals_of_own h1
            obtain ⟨rfl, rfl⟩ : A' = _ ∧ c' = _ := by simpa using e
            exact hv1
          obtain ⟨d1, d2⟩ := (HH.out.below hb1).set_ (c := c') (Only.ofBelow hb1) hs hv.len hv (own_blk h1)
          exact HQ.out _ (by show Doc _ D (updL L s (keepL id (L s))); rw [HLS.out]; exact d1) d2)
        have fz : wr.frozen? ⟨D, s, none⟩ = false := (HH.out.below HR.out.2).blk.frozen _
        clear haj
        go_wp2_with fail
        exact hfin.out
end Go.Proofs.Ytbhhbddmokddeaa
