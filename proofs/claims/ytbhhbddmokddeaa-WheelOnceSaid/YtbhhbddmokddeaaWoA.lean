/-
  WheelOnce, walked.
-/
import Derived.Test.YtbhhbddmokddeaaWoP
namespace Go.Proofs.Ytbhhbddmokddeaa
open Go.RowKit Go.Maps

theorem rowL_nat {L : Nat → List Int} {s : Nat} (hs : s < 64) : rowL L (s : Int) = L s := by
  unfold rowL
  have hm : mayB (s : Int) = true := by unfold mayB; rw [decide_eq_true_iff]; omega
  rw [if_pos hm, Int.toNat_natCast]

/-- What the loop over the row has: the wheel, what has been met (at A'), the row (at A2). -/
structure Mid (w0 w : World) (S M m : Nat) (L : Nat → List Int) (A' : Option Addr) (K c' : Nat) (met : List Int) (A2 : Option Addr) (q : Nat) (row : List Int) : Prop where
  wh : Wh w0 w S M m L
  own : w.ownsRow w0.heap.size 3 1 (.slice A' K c') K (ivals met)
  row : IsInts w A2 q row
  blk : ∀ b o, A2 = some ⟨b, o, none⟩ → HasBlk w b 3 ∧ ∀ b' o', A' = some ⟨b', o', none⟩ → b' ≠ b

theorem Mid.below {w0 w w' : World} {S M m K c' q : Nat} {L : Nat → List Int} {A' A2 : Option Addr} {met row : List Int} (h : Mid w0 w S M m L A' K c' met A2 q row) (hb : Below w.heap.size w w') : Mid w0 w' S M m L A' K c' met A2 q row :=
  ⟨h.wh.below hb, (Only.ofBelow (F := fun _ => False) hb).own h.own fun _ _ => id, IsVals.below h.row hb, fun b o e => ⟨(h.blk b o e).1.only (F := fun _ => False) (Only.ofBelow hb) id, (h.blk b o e).2⟩⟩

theorem Mid.push {w0 w w' : World} {S M m K c1 c' q : Nat} {L : Nat → List Int} {A1 A' A2 : Option Addr} {met row : List Int} {x : Int} (h : Mid w0 w S M m L A1 K c1 met A2 q row)
    (ho : w'.ownsRow w0.heap.size 3 1 (.slice A' (K + 1) c') (K + 1) (ivals met ++ [.int .i64 x])) (hg : w.grownBy w' (Value.ownBlock (.slice A1 K c1))) (hat : ∀ b o, A' = some ⟨b, o, none⟩ → Value.ownBlock (.slice A1 K c1) = some b ∨ b = w.heap.size) :
    Mid w0 w' S M m L A' (K + 1) c' (met ++ [x]) A2 q row := by
  have hown : ∀ b, Value.ownBlock (.slice A1 K c1) = some b → ∃ o, A1 = some ⟨b, o, none⟩ := by
    intro b hb
    obtain ⟨A, c, e, _, _, _, h0 | ⟨g, eg, _, _⟩⟩ := vals_of_own h.own
    · obtain ⟨rfl, rfl⟩ : A1 = _ ∧ c1 = _ := by simpa using e
      rw [h0.1] at hb
      cases hb
    · obtain ⟨rfl, rfl⟩ : A1 = _ ∧ c1 = _ := by simpa using e
      subst eg
      simp only [Value.ownBlock, Option.some.injEq] at hb
      subst hb
      exact ⟨0, rfl⟩
  have hF : Only (fun k => Value.ownBlock (.slice A1 K c1) = some k) w w' := (Only.refl _ w).grown hg fun k hk => .inl hk
  have hint : ∀ b, Value.ownBlock (.slice A1 K c1) = some b → HasBlk w b 3 := fun b hb => by
    obtain ⟨o, e⟩ := hown b hb
    exact own_blk h.own b o e
  have hlow : ∀ b, Value.ownBlock (.slice A1 K c1) = some b → w0.heap.size ≤ b := fun b hb => by
    obtain ⟨o, e⟩ := hown b hb
    subst e
    rcases h.own.2 with ⟨hv, _⟩ | ⟨g, cap, cur, hv, hb', hg, _⟩
    · cases hv
    · obtain ⟨⟨rfl, rfl⟩, _⟩ : (b = g ∧ o = 0) ∧ c1 = cap := by simpa using hv
      exact hb'
  have hne : ∀ b o, A2 = some ⟨b, o, none⟩ → ¬ Value.ownBlock (.slice A1 K c1) = some b := fun b o e hb => by
    obtain ⟨o', e'⟩ := hown b hb
    exact (h.blk b o e).2 b o' e' rfl
  refine ⟨h.wh.only hF (fun k hk e => h.wh.other (hint k e) (by decide) (by decide) (by decide) hk) hlow, ?_, h.row.only hF hne, fun b o e => ⟨(h.blk b o e).1.only hF (hne b o e), fun b' o' e' => ?_⟩⟩
  · rw [ivals_append]; exact ho
  · rcases hat b' o' e' with h1 | h1
    · obtain ⟨o2, e2⟩ := hown b' h1
      exact (h.blk b o e).2 b' o2 e2
    · have := (h.blk b o e).1.lt
      omega

set_option maxHeartbeats 6400000 in
set_option maxRecDepth 100000 in
theorem WheelOnce_walk (A : Option Addr) (n c : Nat) (ps : List Tri) (w : World) (hp : IsTris w A n ps) (hn : n ≤ maxLen) (hwf : ∀ x ∈ ps, TriOk x) (Q : Ending → World → Prop)
    (hQ : ∀ w', Below w.heap.size w w' → Q (.returned (.bool true)) w') :
    Calls Try.prog 4 #[.slice A n c] w Q := by
  have HQ := Lib.hid hQ
  have HP := Lib.hid hp
  have HW := Lib.hid hwf
  unfold maxLen at hn
  clear hQ hp hwf
  go_enter Try.func4, Try.ntmps4
  go_wp2_with fail
  refine new_wh _ fun w1 S M h1 => ?_
  by_cases hbig : 100 < n
  · have HB1 := Lib.hid h1.bel
    clear h1
    go_wp2_with fail
    refine live_any _ fun w' hb => ?_
    have HF := Lib.hid (HB1.out.trans (hb.mono HB1.out.size))
    clear hb
    go_wp2_with fail
    exact HQ.out _ HF.out
  have H1 := Lib.hid h1
  clear h1
  go_wp2_with fail
  go_loopg [4] n (fun g i wr => ∃ k : Nat, k ≤ n ∧ g = n - k ∧ i = .int .i64 k ∧ Hid (∃ m L, Wh w wr S M m L ∧ m ≤ k))
  case atStart => exact ⟨0, Nat.zero_le _, rfl, rfl, Lib.hid ⟨_, _, H1.out, Nat.le_refl _⟩⟩
  case round =>
    obtain ⟨k, hk, hg, rfl, HR⟩ := hrel
    have HG := Lib.hid hg
    clear hg H1
    obtain ⟨m, L, hb, hm⟩ := HR.out
    have HB := Lib.hid hb
    clear HR hb
    by_cases hlt : k < n
    · obtain ⟨b, o, rfl, hbl, c0, c1, c2⟩ := HP.out.at_ hlt
      have hok : TriOk (ps.getD k (0, 0, 0)) := HW.out (ps.getD k (0, 0, 0)) (by
        have := HP.out.1
        rw [List.getD_eq_getElem?_getD, List.getElem?_eq_getElem (by omega)]
        exact List.getElem_mem _)
      generalize ps.getD k (0, 0, 0) = p at *
      obtain ⟨dop, sl, id⟩ := p
      have HOK := Lib.hid hok
      dsimp only at *
      have d0 : wr.cell? ⟨b, o + k * 3, none⟩ = some (.int .i64 dop) := (HB.out.bel.cell (p := ⟨b, _, none⟩) hbl).trans c0
      have d1 : wr.cell? ⟨b, o + k * 3 + 1, none⟩ = some (.int .i64 sl) := (HB.out.bel.cell (p := ⟨b, _, none⟩) hbl).trans c1
      have d2 : wr.cell? ⟨b, o + k * 3 + 2, none⟩ = some (.int .i64 id) := (HB.out.bel.cell (p := ⟨b, _, none⟩) hbl).trans c2
      clear c0 c1 c2 hok
      by_cases e0 : dop = 0
      · subst e0
        go_wp2_with fail
        go_region_with (go_at_call 15; refine add_wh HB.out.drew (by omega) _ (fun w2 h2 _ => ?_); have H2 := Lib.hid h2; clear h2)
        all_goals
          go_wp2_with fail
          go_roundg (n - (k + 1))
          case measure => have := HG.out; omega
          case rel => exact ⟨k + 1, by omega, rfl, by go_num, Lib.hid ⟨_, _, H2.out, by split <;> omega⟩⟩
      by_cases e1 : dop = 1
      · subst e1
        go_wp2_with fail
        refine drop_wh HB.out HOK.out.2.2 _ fun w2 h2 _ => ?_
        have H2 := Lib.hid h2
        clear h2
        go_wp2_with fail
        go_roundg (n - (k + 1))
        case measure => have := HG.out; omega
        case rel => exact ⟨k + 1, by omega, rfl, by go_num, Lib.hid ⟨_, _, H2.out, by omega⟩⟩
      have t0 : (dop == 0) = false := by simpa using e0
      have t1 : (dop == 1) = false := by simpa using e1
      clear e0 e1
      by_cases e4 : dop = 4
      · subst e4
        go_wp2_with fail
        refine empty_wh HB.out (by omega) _ fun w2 A2 c2 h2 _ _ => ?_
        have H2 := Lib.hid h2
        clear h2
        go_wp2_with fail
        go_roundg (n - (k + 1))
        case measure => have := HG.out; omega
        case rel => exact ⟨k + 1, by omega, rfl, by go_num, Lib.hid ⟨_, _, H2.out, by omega⟩⟩
      have t4 : (dop == 4) = false := by simpa using e4
      clear e4
      go_wp2_with fail
      go_roundg (n - (k + 1))
      case measure => have := HG.out; omega
      case rel => exact ⟨k + 1, by omega, rfl, by go_num, Lib.hid ⟨_, _, HB.out, by omega⟩⟩
    · have hm1 : m ≤ 100 := by omega
      clear hm HG
      go_wp2_with fail
      refine next_wh HB.out (f := 0) (by decide) _ ?_
      rw [nv_eq]
      have hT100 : Hid (lenL L ≤ 100 ∧ Good L) := Lib.hid ⟨Nat.le_trans HB.out.lenL hm1, HB.out.good⟩
      go_wp2_with fail
      go_loopg [5, 6, 7, 8, 9] 64 (fun g mask met last s is wr => ∃ (a c' : Nat) (A' : Option Addr) (l : Int), a ≤ 64 ∧ g = 64 - a ∧ mask = .int .u64 (maskTo L a : Nat) ∧ met = .slice A' (metTo L a).length c' ∧ last = .int .i64 l ∧ l < a ∧ s = .int .i64 (nvA (nxtL L a)) ∧ is = .bool (nxtL L a).isSome ∧ Hid (Wh w wr S M m L ∧ wr.ownsRow w.heap.size 3 1 (.slice A' (metTo L a).length c') (metTo L a).length (ivals (metTo L a))))
      case atStart => exact ⟨0, 0, none, -1, Nat.zero_le _, rfl, rfl, rfl, rfl, by decide, rfl, rfl, Lib.hid ⟨HB.out, World.ownsRow_nil _ _ _ _⟩⟩
      case round =>
        obtain ⟨a, c', A', l, ha, hg2, rfl, rfl, rfl, hla, hs1, hs2, HR⟩ := hrel
        have HG2 := Lib.hid hg2
        clear hg2 HB
        cases e : nxtL L a with
        | none =>
          rw [e] at hs1 hs2
          obtain rfl : _ = Value.int .i64 0 := hs1
          obtain rfl : _ = Value.bool false := hs2
          have hz := nxt_none e
          have hmk : maskL L 0 64 = maskTo L a := (maskL_to L).trans (maskTo_skip ha hz)
          have hmt : lenL L = (metTo L a).length := by rw [← metTo_lenL, metTo_skip ha hz]
          generalize maskTo L a = mk at *
          generalize (metTo L a).length = K at *
          have HK := Lib.hid (And.intro hmk hmt)
          have HR2 := Lib.hid HR.out.1
          clear hz hmk hmt e HR
          go_wp2_with fail
          refine mask_wh HR2.out _ ?_
          rw [HK.out.1]
          go_wp2_with fail
          refine len_wh HR2.out _ ?_
          rw [HK.out.2]
          go_wp2_with fail
          refine live_any _ fun w' hb' => ?_
          have HF := Lib.hid (HR2.out.bel.trans (hb'.mono HR2.out.bel.size))
          clear hb'
          go_wp2_with fail
          exact HQ.out _ HF.out
        | some s =>
          rw [e] at hs1 hs2
          obtain rfl : _ = Value.int .i64 (s : Int) := hs1
          obtain rfl : _ = Value.bool true := hs2
          obtain ⟨ha', hs, hne, hz⟩ := nxt_some e
          have hmk := maskTo_skip ha' hz
          have hmet := metTo_skip ha' hz
          have hq0 : 0 < (L s).length := List.length_pos_iff.2 hne
          have hqT : (metTo L s).length + (L s).length ≤ 100 := Nat.le_trans (metTo_le hs (Nat.le_refl _)) hT100.out.1
          have hmklt : maskTo L a < 2 ^ 64 := by rw [← hmk]; exact Nat.lt_of_lt_of_le (maskTo_lt L s) (Nat.pow_le_pow_right (by omega) (by omega))
          have hone : 2 ^ s < 2 ^ 64 := Nat.pow_lt_pow_right (by omega) hs
          have hor := or64 hmklt hone
          have hsh := shl64 1 s
          rw [Nat.one_shiftLeft, Nat.mod_eq_of_lt hone] at hsh
          simp only [Int.natCast_one, Int.one_mul] at hsh
          have hmk2 : maskTo L a ||| 2 ^ s = maskTo L (s + 1) := by
            rw [maskTo_succ hne, hmk, Nat.or_comm, Nat.add_comm]
            have := Nat.two_pow_add_eq_or_of_lt (i := s) (b := maskTo L a) (by rw [← hmk]; exact maskTo_lt L s) 1
            rw [Nat.mul_one] at this
            exact this.symm
          rw [hmk2] at hor
          rw [hmet] at hqT
          generalize hMS : maskTo L (s + 1) = ms at *
          generalize hMK : maskTo L a = mk at *
          generalize hKE : (metTo L a).length = K at *
          generalize hq : (L s).length = q at *
          generalize hON : 2 ^ s = one at *
          have HM := Lib.hid (And.intro hMS (And.intro hKE (And.intro hq (And.intro hmet (And.intro hne (rowL_nat (L := L) hs))))))
          clear hMS hMK hKE hq hmk hmk2 hmet hne hz e hone hmklt hON
          have hsl : l < (s : Int) := by omega
          have hle : decide ((s : Int) ≤ l) = false := by simpa using hsl
          have hs0 : 0 ≤ (s : Int) := by omega
          have hs64 : (s : Int) < 64 := by omega
          have h63 : decide (63 < (s : Int)) = false := by simp; omega
          have hqn : ((q : Int) == 0) = false := by simp; omega
          go_wp2_with fail
          refine row_wh HR.out.1 (by omega) _ fun w2 A2 c2 hb2 hv2 hk2 => ?_
          rw [HM.out.2.2.2.2.2, HM.out.2.2.1] at hv2 ⊢
          have HMID : Hid (Mid w w2 S M m L A' K c' (metTo L s) A2 q (L s)) := Lib.hid (by
            have ho := (Only.ofBelow (F := fun _ => False) hb2).own HR.out.2 fun _ _ => id
            refine ⟨HR.out.1.below hb2, by rw [HM.out.2.2.2.1]; exact ho, hv2, fun b o e => ⟨(hk2 b o e).1, fun b' o' e' => ?_⟩⟩
            have h1 := (own_blk HR.out.2 b' o' e').lt
            have h2 := (hk2 b o e).2
            omega)
          clear hb2 hv2 hk2 HR
          go_wp2_with fail
          go_loopg [6, 11] q (fun g met i wi => ∃ (j c1 : Nat) (A1 : Option Addr), j ≤ q ∧ g = q - j ∧ i = .int .i64 (j : Int) ∧ met = .slice A1 (K + j) c1 ∧ Hid (Mid w wi S M m L A1 (K + j) c1 (metTo L s ++ (L s).take j) A2 q (L s)))
          case atStart => exact ⟨0, c', A', Nat.zero_le _, rfl, rfl, rfl, Lib.hid (by rw [List.take_zero, List.append_nil]; exact HMID.out)⟩
          case round =>
            obtain ⟨j, c1, A1, hj, hg3, rfl, rfl, HI⟩ := hrel
            have HG3 := Lib.hid hg3
            clear hg3 HMID
            by_cases hjq : j < q
            · obtain ⟨b, o', rfl, hbl, d0⟩ := HI.out.row.at_ hjq
              have hjl : j < (L s).length := by rw [HM.out.2.2.1]; exact hjq
              have hx1 : (Lit.int .i64 ((L s).getD j 0)).wf = true := hT100.out.2.fits s hs _ (getD_mem hjl)
              have hx2 := loc_mem hT100.out.2 hs (getD_mem hjl)
              have hx3 := met_new hT100.out.2 hs hjl
              have hx4 := take_snoc hjl
              generalize (L s).getD j 0 = x at *
              have HX := Lib.hid (And.intro hx1 (And.intro hx2 (And.intro hx3 hx4)))
              clear hx1 hx2 hx3 hx4 hjl
              go_wp2_with fail
              refine where_wh HI.out.wh HX.out.1 _ ?_
              rw [HX.out.2.1]
              unfold nv
              go_wp2_with fail
              go_loopg [14] (K + j) (fun g i wi2 => ∃ p q2 : Nat, p ≤ K + j ∧ g = K + j - p ∧ i = .int .i64 (p : Int) ∧ wi2 = wr.drewN q2)
              case atStart => exact ⟨0, 0, Nat.zero_le _, rfl, rfl, rfl⟩
              case round =>
                obtain ⟨p, q2, hp, hg4, rfl, rfl⟩ := hrel
                have HG4 := Lib.hid hg4
                clear hg4
                by_cases hpk : p < K + j
                · have hmi := own_ints HI.out.own
                  obtain ⟨b1, o1, rfl, _, d4⟩ := hmi.at_ hpk
                  have hyx : (metTo L s ++ (L s).take j).getD p 0 ≠ x := fun e => HX.out.2.2.1 (e ▸ getD_mem (by rw [hmi.len]; exact hpk))
                  have hb4 : ((metTo L s ++ (L s).take j).getD p 0 == x) = false := by simpa using hyx
                  generalize (metTo L s ++ (L s).take j).getD p 0 = y at *
                  clear hyx hmi
                  go_wp2_with fail
                  go_region
                  all_goals
                    go_wp2_with fail
                    go_roundg (K + j - (p + 1))
                    case measure => have := HG4.out; omega
                    case rel => exact ⟨p + 1, _, by omega, rfl, by go_num, rfl⟩
                · have HI2 := Lib.hid (HI.out.below (w' := wr.drewN q2) ⟨rfl, rfl, rfl, Nat.le_refl _, fun _ _ => rfl⟩)
                  have hsz2 := HI2.out.wh.bel.size
                  generalize hwe : wr.drewN q2 = wd at *
                  have d5 : wd.cell? ⟨b, o' + j, none⟩ = some (.int .i64 x) := by rw [← hwe]; exact d0
                  clear hwe HI HG4
                  go_wp2_with (at_builtin; refine wpList_push rfl (.tmp 136) (.tmp 141) 26 rfl w.heap.size 3 Try.underlying26 infoInt rfl (.slice A1 (K + j) c1) (K + j) _ rfl (HI2.out.own.alloc _) wd.heap.size 1 (.int .i64 x) rfl ((Blk.new _ _ _).cell 0) (by simp [Value.oneCell']) (by unfold maxLen; omega) (by omega) (by simp; omega) ?_; intro A5 c5 w5 ho5 hg5 ha5; have H5 := Lib.hid (Mid.push (HI2.out.below ((Below.refl _ wd).alloc (Nat.le_refl _) _)) ho5 hg5 ha5); clear ho5 hg5 ha5)
                  go_roundg (q - (j + 1))
                  case measure => have := HG3.out; omega
                  case rel => exact ⟨j + 1, c5, A5, by omega, rfl, by go_num, rfl, Lib.hid (by rw [HX.out.2.2.2, ← List.append_assoc]; exact H5.out)⟩
            · have hje : j = q := by omega
              subst hje
              have hlen : (metTo L (s + 1)).length = K + j := by rw [metTo, List.length_append, HM.out.2.2.2.1, HM.out.2.1, HM.out.2.2.1]
              have HF : Hid (Wh w wr S M m L ∧ wr.ownsRow w.heap.size 3 1 (.slice A1 (metTo L (s + 1)).length c1) (metTo L (s + 1)).length (ivals (metTo L (s + 1)))) := Lib.hid (by
                rw [hlen, metTo]
                have := HI.out.own
                rw [← HM.out.2.2.1, List.take_length] at this
                rw [← HM.out.2.2.1]
                exact ⟨HI.out.wh, this⟩)
              have HLEN := Lib.hid hlen
              clear hlen HI HG3
              go_wp2_with fail
              refine next_wh HF.out.1 (by omega) _ ?_
              rw [nv_eq, show ((s : Int) + 1).toNat = s + 1 by omega]
              go_wp2_with fail
              go_roundg (64 - (s + 1))
              case measure => have := HG2.out; omega
              case rel => exact ⟨s + 1, c1, A1, (s : Int), by omega, rfl, by rw [HM.out.1], by rw [HLEN.out], rfl, by omega, rfl, rfl, HF⟩
end Go.Proofs.Ytbhhbddmokddeaa
