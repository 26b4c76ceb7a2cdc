/-
  WheelScripts, walked.
-/
import Derived.Test.YtbhhbddmokddeaaWsB
import Derived.Test.YtbhhbddmokddeaaKitT
import Derived.Deep.DeepCutAuto
import Derived.Deep.CutBlock
namespace Go.Proofs.Ytbhhbddmokddeaa
open Go.RowKit Go.Maps

/-- The cells of a document's wheel that is nothing. -/
def zd : Array Value := (List.replicate 64 (Value.slice none 0 0)).toArray

theorem zd_run (w : World) : (zeroValue 29).run Try.prog w = .ok (.agg zd) w := by kernel_rfl
theorem zd_at {i : Nat} (h : i < 64) : zd[i]? = some (.slice none 0 0) := by
  unfold zd
  rw [List.getElem?_toArray, List.getElem?_replicate, if_pos h]

theorem doc_new (w : World) : Doc (w.alloc (.cells zd 29)) w.heap.size (fun _ => []) := by
  have hb := Blk.new w 29 zd
  exact ⟨fun s hs => ⟨none, 0, (hb.cell _).trans (zd_at hs), IsVals.nil _ _, fun _ _ e => by cases e⟩, ⟨_, hb⟩⟩

set_option maxHeartbeats 1600000 in
set_option maxRecDepth 100000 in
theorem WheelScripts_walk (A : Option Addr) (n c : Nat) (ps : List Tri) (w : World) (hp : IsTris w A n ps) (hn : n ≤ maxLen) (hwf : ∀ x ∈ ps, TriOk x) (Q : Ending → World → Prop)
    (hQ : ∀ w', Below w.heap.size w w' → Q (.returned (.bool true)) w') :
    Calls Try.prog 3 #[.slice A n c] w Q := by
  have HQ := Lib.hid hQ
  have HP := Lib.hid hp
  have HW := Lib.hid hwf
  have hz := zd_run
  unfold maxLen at hn
  clear hQ hp hwf
  go_enter Try.func3, Try.ntmps3
  go_wp2_with fail
  refine new_wh _ fun w1 S M h1 => ?_
  by_cases hbig : 100 < n
  · have HB1 := Lib.hid h1.bel
    clear h1
    go_wp2_with fail
    refine live_any _ fun w' hb => ?_
    have HF := Lib.hid (HB1.out.trans ((((Below.refl _ w1).alloc (Nat.le_refl _) _).trans (hb.mono (by simp))).mono HB1.out.size))
    clear hb
    go_wp2_with fail
    exact HQ.out _ HF.out
  have h2 : Hid (Both w (w1.alloc (.cells zd 29)) S M w1.heap.size 0 (fun _ => [])) := Lib.hid ⟨h1.below ((Below.refl _ w1).alloc (Nat.le_refl _) _), doc_new w1, h1.bel.size⟩
  clear h1
  obtain ⟨D, hD⟩ : ∃ D, D = w1.heap.size := ⟨_, rfl⟩
  have HD := Lib.hid hD
  go_wp2_with fail
  rw [← hD]
  rw [← hD] at h2
  clear hD
  go_loopg [5] n (fun g i wr => ∃ k : Nat, k ≤ n ∧ g = n - k ∧ i = .int .i64 k ∧ Hid (∃ m L, Both w wr S M D m L ∧ m ≤ k))
  case atStart => exact ⟨0, Nat.zero_le _, rfl, rfl, Lib.hid ⟨_, _, h2.out, Nat.le_refl _⟩⟩
  case round =>
    obtain ⟨k, hk, hg, rfl, HR⟩ := hrel
    have HG := Lib.hid hg
    clear hg h2
    obtain ⟨m, L, hb, hm⟩ := HR.out
    have HB := Lib.hid hb
    clear HR hb
    by_cases hlt : k < n
    · obtain ⟨b, o, rfl, hbl, c0, c1, c2⟩ := HP.out.at_ hlt
      have hok : TriOk (ps.getD k (0, 0, 0)) := HW.out (ps.getD k (0, 0, 0)) (by
        have := HP.out.1
        rw [List.getD_eq_getElem?_getD, List.getElem?_eq_getElem (by omega)]
        exact List.getElem_mem _)
      generalize ps.getD k (0, 0, 0) = p at *
      obtain ⟨dop, sl, id⟩ := p
      have HOK := Lib.hid hok
      dsimp only at *
      have d0 : wr.cell? ⟨b, o + k * 3, none⟩ = some (.int .i64 dop) := (HB.out.wh.bel.cell (p := ⟨b, _, none⟩) hbl).trans c0
      have d1 : wr.cell? ⟨b, o + k * 3 + 1, none⟩ = some (.int .i64 sl) := (HB.out.wh.bel.cell (p := ⟨b, _, none⟩) hbl).trans c1
      have d2 : wr.cell? ⟨b, o + k * 3 + 2, none⟩ = some (.int .i64 id) := (HB.out.wh.bel.cell (p := ⟨b, _, none⟩) hbl).trans c2
      clear hok c0 c1 c2
      go_wp2_with fail
      refine does_any HB.out (by omega) HOK.out.2.1 HOK.out.2.2 _ fun w2 m2 L2 hm2 hb2 => ?_
      have hl2 : ∀ s, s < 64 → (L2 s).length ≤ 100000 := fun s hs => Nat.le_trans (hb2.wh.len hs) (by omega)
      have HB2 := Lib.hid (And.intro hb2 hl2)
      clear hb2 hl2 d0 d1 d2
      go_wp2_with fail
      refine mask_wh HB2.out.1.wh _ ?_
      go_wp2_with fail
      refine rmask_any HB2.out.1.doc _ ?_
      go_wp2_with fail
      refine len_wh HB2.out.1.wh _ ?_
      go_wp2_with fail
      refine rlen_any HB2.out.1.doc HB2.out.2 _ ?_
      unfold lenL
      go_wp2_with fail
      go_roundg (n - (k + 1))
      case measure => have := HG.out; omega
      case rel => exact ⟨k + 1, by omega, rfl, by go_num, Lib.hid ⟨m2, L2, HB2.out.1, by omega⟩⟩
    · go_wp2_with fail
      refine live_any _ fun w' hb' => ?_
      have HF := Lib.hid (HB.out.wh.bel.trans (hb'.mono HB.out.wh.bel.size))
      clear hb'
      go_wp2_with fail
      exact HQ.out _ HF.out
end Go.Proofs.Ytbhhbddmokddeaa
