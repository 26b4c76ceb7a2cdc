/-
  RecentNil, walked.
-/
import Derived.Test.YtenfcppcnkfidaaRcD
namespace Go.Proofs.Ytenfcppcnkfidaa
open Go.RowKit Go.Maps

theorem order_nil {w : World} (Q : Ending → World → Prop) (hQ : Q (.returned (.slice none 0 0)) w) :
    Calls Try.prog 20 #[.pointer none] w Q := by
  go_enter Try.func20, Try.ntmps20
  go_wp2_with fail
  exact hQ

set_option maxHeartbeats 400000 in
theorem recentNil_q (a0 : Int) (w : World) (Q : Ending → World → Prop) (hQ : ∀ w', Below w.heap.size w w' → Q (.returned (.bool true)) w') :
    Calls Try.prog 6 #[.int .i64 a0] w Q := by
  have HQ := Lib.hid hQ
  clear hQ
  go_enter Try.func6, Try.ntmps6
  go_wp2_with fail
  refine oldest_nil _ ?_
  go_wp2_with fail
  refine newer_nil _ ?_
  go_wp2_with fail
  refine touch_bad (.inl rfl) _ ?_
  go_wp2_with fail
  refine drop_nil _ ?_
  go_wp2_with fail
  refine order_nil _ ?_
  go_wp2_with fail
  refine len_nil _ ?_
  go_wp2_with fail
  refine live_any _ fun w' hb => ?_
  go_wp2_with fail
  exact HQ.out _ hb

theorem RecentNil_walk (a0 : Int) (_w0 : (Lit.int .i64 a0).wf = true) (w : World) :
    Calls Try.prog 6 #[.int .i64 a0] w fun e w' => e = .returned (.bool true) ∧ Below w.heap.size w w' :=
  recentNil_q a0 w _ fun _ hb => ⟨rfl, hb⟩
end Go.Proofs.Ytenfcppcnkfidaa
