/-
  No cell of these rows narrows 'for every input' (looked for: loops, veiled, ifaces, maps, wideKeys, modest, calm, conditions, laid).
  DERIVED. THE GIVEN ROWS OF THIS SEAT. 5 by the template 'for every input the law returns true; each argument reads behind the call as it read before'; 0 by the template 'total and deterministic' (their statements: YtenfcppcnkfidaaTotals.lean).
  GIVEN WITH THE SEED: the statements are not yours to turn. If you find one false, say at which input.
  Laid BY PROGRAM, IN A SANDBOX (cutbox-rows.mjs): the forced cells as the released guide's own fill.sh prints them over the translation 67ee25ddf6399a58… (all of the seat's roots in one cut). By AI agents, Wed Nov 11 2026. No macro, syntax, notation, axiom, sorry.
-/
import Derived.Test.YtenfcppcnkfidaaChecked
import GoSem.Claim
import GoSem.ClaimJoined
import GoSem.ClaimMapViews
import Derived.JoinedTies
import Derived.KernelRfl
namespace Go.Proofs.Ytenfcppcnkfidaa
/- THE CELL 'sum', in the pinned program and in every row, IS THE sha256 OF THE DUMP (.gsa) THAT YtenfcppcnkfidaaProg.lean LOADS. Nothing in Lean hashes anything: it is a label: what it is worth is what the hold of that sum in a sandbox is worth. -/
noncomputable def Try.pinned : Pinned := { name := "ytenfcppcnkfidaa", sum := "67ee25ddf6399a588dcd257c20a9cee4a2b130ba1a966c8e04e367db999ef737", checked := Try.checked }
namespace Rows
def none {H : Type} : Left H := { results := [], args := [] }

/-- 'sandglasslaw17.RecentScripts': WHATEVER THE INPUT: true; the input reads as it did. -/
def recentScriptsSpec : ChangeSpec := { name := "recentScripts", fn := fun _ => fun
  | [d] => { results := [.lit (.bool true)], args := [d] }
  | _ => none }
def recentScriptsRow : OpenClaim := { program := "ytenfcppcnkfidaa", sum := "67ee25ddf6399a588dcd257c20a9cee4a2b130ba1a966c8e04e367db999ef737", func := "sandglass/sandglasslaw17.RecentScripts", spec := "recentScripts", apart := false }
def RecentScriptsSaid : Prop := recentScriptsRow.holds Try.pinned (OpenSpec.ofChange recentScriptsSpec)

/-- ITS FALSE NEIGHBOUR: 'it returns false'. Refute it at one input. -/
def recentScriptsWrong : ChangeSpec := { name := "recentScripts", fn := fun _ => fun
  | [d] => { results := [.lit (.bool false)], args := [d] }
  | _ => none }
def RecentScriptsWrongFalsely : Prop := recentScriptsRow.holds Try.pinned (OpenSpec.ofChange recentScriptsWrong)

/-- 'sandglasslaw17.RecentWalks': WHATEVER THE INPUT: true; the input reads as it did. -/
def recentWalksSpec : ChangeSpec := { name := "recentWalks", fn := fun _ => fun
  | [d] => { results := [.lit (.bool true)], args := [d] }
  | _ => none }
def recentWalksRow : OpenClaim := { program := "ytenfcppcnkfidaa", sum := "67ee25ddf6399a588dcd257c20a9cee4a2b130ba1a966c8e04e367db999ef737", func := "sandglass/sandglasslaw17.RecentWalks", spec := "recentWalks", apart := false }
def RecentWalksSaid : Prop := recentWalksRow.holds Try.pinned (OpenSpec.ofChange recentWalksSpec)

/-- ITS FALSE NEIGHBOUR: 'it returns false'. Refute it at one input. -/
def recentWalksWrong : ChangeSpec := { name := "recentWalks", fn := fun _ => fun
  | [d] => { results := [.lit (.bool false)], args := [d] }
  | _ => none }
def RecentWalksWrongFalsely : Prop := recentWalksRow.holds Try.pinned (OpenSpec.ofChange recentWalksWrong)

/-- 'sandglasslaw17.RecentTouches': WHATEVER THE INPUT: true; the input reads as it did. -/
def recentTouchesSpec : ChangeSpec := { name := "recentTouches", fn := fun _ => fun
  | [d1, d2] => { results := [.lit (.bool true)], args := [d1, d2] }
  | _ => none }
def recentTouchesRow : OpenClaim := { program := "ytenfcppcnkfidaa", sum := "67ee25ddf6399a588dcd257c20a9cee4a2b130ba1a966c8e04e367db999ef737", func := "sandglass/sandglasslaw17.RecentTouches", spec := "recentTouches", apart := false }
def RecentTouchesSaid : Prop := recentTouchesRow.holds Try.pinned (OpenSpec.ofChange recentTouchesSpec)

/-- ITS FALSE NEIGHBOUR: 'it returns false'. Refute it at one input. -/
def recentTouchesWrong : ChangeSpec := { name := "recentTouches", fn := fun _ => fun
  | [d1, d2] => { results := [.lit (.bool false)], args := [d1, d2] }
  | _ => none }
def RecentTouchesWrongFalsely : Prop := recentTouchesRow.holds Try.pinned (OpenSpec.ofChange recentTouchesWrong)

/-- 'sandglasslaw17.RecentNil': WHATEVER THE INPUT: true; the input reads as it did. -/
def recentNilSpec : ChangeSpec := { name := "recentNil", fn := fun _ => fun
  | [d] => { results := [.lit (.bool true)], args := [d] }
  | _ => none }
def recentNilRow : OpenClaim := { program := "ytenfcppcnkfidaa", sum := "67ee25ddf6399a588dcd257c20a9cee4a2b130ba1a966c8e04e367db999ef737", func := "sandglass/sandglasslaw17.RecentNil", spec := "recentNil", apart := false }
def RecentNilSaid : Prop := recentNilRow.holds Try.pinned (OpenSpec.ofChange recentNilSpec)

/-- ITS FALSE NEIGHBOUR: 'it returns false'. Refute it at one input. -/
def recentNilWrong : ChangeSpec := { name := "recentNil", fn := fun _ => fun
  | [d] => { results := [.lit (.bool false)], args := [d] }
  | _ => none }
def RecentNilWrongFalsely : Prop := recentNilRow.holds Try.pinned (OpenSpec.ofChange recentNilWrong)

/-- 'sandglasslaw17.RecentLast': WHATEVER THE INPUT: true; the input reads as it did. -/
def recentLastSpec : ChangeSpec := { name := "recentLast", fn := fun _ => fun
  | [d] => { results := [.lit (.bool true)], args := [d] }
  | _ => none }
def recentLastRow : OpenClaim := { program := "ytenfcppcnkfidaa", sum := "67ee25ddf6399a588dcd257c20a9cee4a2b130ba1a966c8e04e367db999ef737", func := "sandglass/sandglasslaw17.RecentLast", spec := "recentLast", apart := false }
def RecentLastSaid : Prop := recentLastRow.holds Try.pinned (OpenSpec.ofChange recentLastSpec)

/-- ITS FALSE NEIGHBOUR: 'it returns false'. Refute it at one input. -/
def recentLastWrong : ChangeSpec := { name := "recentLast", fn := fun _ => fun
  | [d] => { results := [.lit (.bool false)], args := [d] }
  | _ => none }
def RecentLastWrongFalsely : Prop := recentLastRow.holds Try.pinned (OpenSpec.ofChange recentLastWrong)

/- THE SECOND FORM. 'bulk': how many values and letters a reading holds, each counted each time it is reached (what is shared counts as often as it is met; a slice's spare places count too). A statement '..UptoSaid' is the law's where the arguments, and the package variables that the reading takes, are together of bulk at most 1048576: NARROWER than '..Said'. Prove '..Said' where nothing that the law and all that it calls make is longer than what came in: it says more and counts as full. Else prove '..UptoSaid'. A law counts once. -/
mutual
def uptoBulk {H : Type} : DataW H → Nat
  | .lit (.string bytes) => bytes.length + 1
  | .lit _ => 1
  | .nil => 1
  | .ptr d => uptoBulk d + 1
  | .slice elems spare => uptoBulkAll elems + uptoBulkAll spare + 1
  | .agg parts => uptoBulkAll parts + 1
  | .iface _ d => uptoBulk d + 1
  | .map entries => uptoBulkEntries entries + 1
  | .held _ => 1
def uptoBulkAll {H : Type} : List (DataW H) → Nat
  | [] => 0
  | d :: r => uptoBulk d + uptoBulkAll r
def uptoBulkEntries {H : Type} : List (Lit × DataW H) → Nat
  | [] => 0
  | x :: r => uptoBulkEntry x + uptoBulkEntries r
def uptoBulkEntry {H : Type} : Lit × DataW H → Nat
  | (.string bytes, d) => bytes.length + uptoBulk d + 1
  | (_, d) => uptoBulk d + 1
 end
def uptoSmall : (H : Type) → List (DataW H) → Bool := fun _ ds => decide (uptoBulkAll ds ≤ 1048576)
def OpenSpec.upto (s : _root_.Go.ChangeSpec) : _root_.Go.OpenSpec := { _root_.Go.OpenSpec.ofChange s with cond := some uptoSmall }

/-- 'sandglasslaw17.RecentScripts', WHERE WHAT IT READS IS OF BULK AT MOST 1048576: true; the input reads as it did. -/
def recentScriptsUptoRow : OpenClaim := { program := "ytenfcppcnkfidaa", sum := "67ee25ddf6399a588dcd257c20a9cee4a2b130ba1a966c8e04e367db999ef737", func := "sandglass/sandglasslaw17.RecentScripts", spec := "recentScripts", apart := false, narrowed := true }
def RecentScriptsUptoSaid : Prop := recentScriptsUptoRow.holds Try.pinned (OpenSpec.upto recentScriptsSpec)

/-- 'sandglasslaw17.RecentWalks', WHERE WHAT IT READS IS OF BULK AT MOST 1048576: true; the input reads as it did. -/
def recentWalksUptoRow : OpenClaim := { program := "ytenfcppcnkfidaa", sum := "67ee25ddf6399a588dcd257c20a9cee4a2b130ba1a966c8e04e367db999ef737", func := "sandglass/sandglasslaw17.RecentWalks", spec := "recentWalks", apart := false, narrowed := true }
def RecentWalksUptoSaid : Prop := recentWalksUptoRow.holds Try.pinned (OpenSpec.upto recentWalksSpec)

/-- 'sandglasslaw17.RecentTouches', WHERE WHAT IT READS IS OF BULK AT MOST 1048576: true; the input reads as it did. -/
def recentTouchesUptoRow : OpenClaim := { program := "ytenfcppcnkfidaa", sum := "67ee25ddf6399a588dcd257c20a9cee4a2b130ba1a966c8e04e367db999ef737", func := "sandglass/sandglasslaw17.RecentTouches", spec := "recentTouches", apart := false, narrowed := true }
def RecentTouchesUptoSaid : Prop := recentTouchesUptoRow.holds Try.pinned (OpenSpec.upto recentTouchesSpec)

/-- 'sandglasslaw17.RecentNil', WHERE WHAT IT READS IS OF BULK AT MOST 1048576: true; the input reads as it did. -/
def recentNilUptoRow : OpenClaim := { program := "ytenfcppcnkfidaa", sum := "67ee25ddf6399a588dcd257c20a9cee4a2b130ba1a966c8e04e367db999ef737", func := "sandglass/sandglasslaw17.RecentNil", spec := "recentNil", apart := false, narrowed := true }
def RecentNilUptoSaid : Prop := recentNilUptoRow.holds Try.pinned (OpenSpec.upto recentNilSpec)

/-- 'sandglasslaw17.RecentLast', WHERE WHAT IT READS IS OF BULK AT MOST 1048576: true; the input reads as it did. -/
def recentLastUptoRow : OpenClaim := { program := "ytenfcppcnkfidaa", sum := "67ee25ddf6399a588dcd257c20a9cee4a2b130ba1a966c8e04e367db999ef737", func := "sandglass/sandglasslaw17.RecentLast", spec := "recentLast", apart := false, narrowed := true }
def RecentLastUptoSaid : Prop := recentLastUptoRow.holds Try.pinned (OpenSpec.upto recentLastSpec)

end Rows
end Go.Proofs.Ytenfcppcnkfidaa
