/-
  No cell of these rows narrows 'for every input' (looked for: loops, veiled, ifaces, maps, wideKeys, modest, calm, conditions, laid).
  DERIVED. THE GIVEN ROWS OF THIS SEAT. 7 by the template 'for every input the law returns true; each argument reads behind the call as it read before'; 0 by the template 'total and deterministic' (their statements: YtfieaijehkfepaaTotals.lean).
  GIVEN WITH THE SEED: the statements are not yours to turn. If you find one false, say at which input.
  Laid BY PROGRAM, IN A SANDBOX (cutbox-rows.mjs): the forced cells as the released guide's own fill.sh prints them over the translation fc28e678c02f39dd… (all of the seat's roots in one cut). By AI agents, Wed Nov 11 2026. No macro, syntax, notation, axiom, sorry.
-/
import Derived.Test.YtfieaijehkfepaaChecked
import GoSem.Claim
import GoSem.ClaimJoined
import GoSem.ClaimMapViews
import Derived.JoinedTies
import Derived.KernelRfl
namespace Go.Proofs.Ytfieaijehkfepaa
/- THE CELL 'sum', in the pinned program and in every row, IS THE sha256 OF THE DUMP (.gsa) THAT YtfieaijehkfepaaProg.lean LOADS. Nothing in Lean hashes anything: it is a label: what it is worth is what the hold of that sum in a sandbox is worth. -/
noncomputable def Try.pinned : Pinned := { name := "ytfieaijehkfepaa", sum := "fc28e678c02f39dde670fb429e98d4c0634b40d36137d0d42a5deed9bbec8039", checked := Try.checked }
namespace Rows
def none {H : Type} : Left H := { results := [], args := [] }

/-- 'sandglasslaw01.BitsGets': WHATEVER THE INPUT: true; the input reads as it did. -/
def bitsGetsSpec : ChangeSpec := { name := "bitsGets", fn := fun _ => fun
  | [d1, d2, d3] => { results := [.lit (.bool true)], args := [d1, d2, d3] }
  | _ => none }
def bitsGetsRow : OpenClaim := { program := "ytfieaijehkfepaa", sum := "fc28e678c02f39dde670fb429e98d4c0634b40d36137d0d42a5deed9bbec8039", func := "sandglass/sandglasslaw01.BitsGets", spec := "bitsGets", apart := false }
def BitsGetsSaid : Prop := bitsGetsRow.holds Try.pinned (OpenSpec.ofChange bitsGetsSpec)

/-- ITS FALSE NEIGHBOUR: 'it returns false'. Refute it at one input. -/
def bitsGetsWrong : ChangeSpec := { name := "bitsGets", fn := fun _ => fun
  | [d1, d2, d3] => { results := [.lit (.bool false)], args := [d1, d2, d3] }
  | _ => none }
def BitsGetsWrongFalsely : Prop := bitsGetsRow.holds Try.pinned (OpenSpec.ofChange bitsGetsWrong)

/-- 'sandglasslaw01.BitsCounts': WHATEVER THE INPUT: true; the input reads as it did. -/
def bitsCountsSpec : ChangeSpec := { name := "bitsCounts", fn := fun _ => fun
  | [d1, d2] => { results := [.lit (.bool true)], args := [d1, d2] }
  | _ => none }
def bitsCountsRow : OpenClaim := { program := "ytfieaijehkfepaa", sum := "fc28e678c02f39dde670fb429e98d4c0634b40d36137d0d42a5deed9bbec8039", func := "sandglass/sandglasslaw01.BitsCounts", spec := "bitsCounts", apart := false }
def BitsCountsSaid : Prop := bitsCountsRow.holds Try.pinned (OpenSpec.ofChange bitsCountsSpec)

/-- ITS FALSE NEIGHBOUR: 'it returns false'. Refute it at one input. -/
def bitsCountsWrong : ChangeSpec := { name := "bitsCounts", fn := fun _ => fun
  | [d1, d2] => { results := [.lit (.bool false)], args := [d1, d2] }
  | _ => none }
def BitsCountsWrongFalsely : Prop := bitsCountsRow.holds Try.pinned (OpenSpec.ofChange bitsCountsWrong)

/-- 'sandglasslaw01.BitsPacks': WHATEVER THE INPUT: true; the input reads as it did. -/
def bitsPacksSpec : ChangeSpec := { name := "bitsPacks", fn := fun _ => fun
  | [d1, d2, d3] => { results := [.lit (.bool true)], args := [d1, d2, d3] }
  | _ => none }
def bitsPacksRow : OpenClaim := { program := "ytfieaijehkfepaa", sum := "fc28e678c02f39dde670fb429e98d4c0634b40d36137d0d42a5deed9bbec8039", func := "sandglass/sandglasslaw01.BitsPacks", spec := "bitsPacks", apart := false }
def BitsPacksSaid : Prop := bitsPacksRow.holds Try.pinned (OpenSpec.ofChange bitsPacksSpec)

/-- ITS FALSE NEIGHBOUR: 'it returns false'. Refute it at one input. -/
def bitsPacksWrong : ChangeSpec := { name := "bitsPacks", fn := fun _ => fun
  | [d1, d2, d3] => { results := [.lit (.bool false)], args := [d1, d2, d3] }
  | _ => none }
def BitsPacksWrongFalsely : Prop := bitsPacksRow.holds Try.pinned (OpenSpec.ofChange bitsPacksWrong)

/-- 'sandglasslaw01.BitsBack': WHATEVER THE INPUT: true; the input reads as it did. -/
def bitsBackSpec : ChangeSpec := { name := "bitsBack", fn := fun _ => fun
  | [d1, d2, d3] => { results := [.lit (.bool true)], args := [d1, d2, d3] }
  | _ => none }
def bitsBackRow : OpenClaim := { program := "ytfieaijehkfepaa", sum := "fc28e678c02f39dde670fb429e98d4c0634b40d36137d0d42a5deed9bbec8039", func := "sandglass/sandglasslaw01.BitsBack", spec := "bitsBack", apart := false }
def BitsBackSaid : Prop := bitsBackRow.holds Try.pinned (OpenSpec.ofChange bitsBackSpec)

/-- ITS FALSE NEIGHBOUR: 'it returns false'. Refute it at one input. -/
def bitsBackWrong : ChangeSpec := { name := "bitsBack", fn := fun _ => fun
  | [d1, d2, d3] => { results := [.lit (.bool false)], args := [d1, d2, d3] }
  | _ => none }
def BitsBackWrongFalsely : Prop := bitsBackRow.holds Try.pinned (OpenSpec.ofChange bitsBackWrong)

/-- 'sandglasslaw01.BitsAgain': WHATEVER THE INPUT: true; the input reads as it did. -/
def bitsAgainSpec : ChangeSpec := { name := "bitsAgain", fn := fun _ => fun
  | [d1, d2, d3] => { results := [.lit (.bool true)], args := [d1, d2, d3] }
  | _ => none }
def bitsAgainRow : OpenClaim := { program := "ytfieaijehkfepaa", sum := "fc28e678c02f39dde670fb429e98d4c0634b40d36137d0d42a5deed9bbec8039", func := "sandglass/sandglasslaw01.BitsAgain", spec := "bitsAgain", apart := false }
def BitsAgainSaid : Prop := bitsAgainRow.holds Try.pinned (OpenSpec.ofChange bitsAgainSpec)

/-- ITS FALSE NEIGHBOUR: 'it returns false'. Refute it at one input. -/
def bitsAgainWrong : ChangeSpec := { name := "bitsAgain", fn := fun _ => fun
  | [d1, d2, d3] => { results := [.lit (.bool false)], args := [d1, d2, d3] }
  | _ => none }
def BitsAgainWrongFalsely : Prop := bitsAgainRow.holds Try.pinned (OpenSpec.ofChange bitsAgainWrong)

/-- 'sandglasslaw01.BitsOnes': WHATEVER THE INPUT: true; the input reads as it did. -/
def bitsOnesSpec : ChangeSpec := { name := "bitsOnes", fn := fun _ => fun
  | [d1, d2] => { results := [.lit (.bool true)], args := [d1, d2] }
  | _ => none }
def bitsOnesRow : OpenClaim := { program := "ytfieaijehkfepaa", sum := "fc28e678c02f39dde670fb429e98d4c0634b40d36137d0d42a5deed9bbec8039", func := "sandglass/sandglasslaw01.BitsOnes", spec := "bitsOnes", apart := false }
def BitsOnesSaid : Prop := bitsOnesRow.holds Try.pinned (OpenSpec.ofChange bitsOnesSpec)

/-- ITS FALSE NEIGHBOUR: 'it returns false'. Refute it at one input. -/
def bitsOnesWrong : ChangeSpec := { name := "bitsOnes", fn := fun _ => fun
  | [d1, d2] => { results := [.lit (.bool false)], args := [d1, d2] }
  | _ => none }
def BitsOnesWrongFalsely : Prop := bitsOnesRow.holds Try.pinned (OpenSpec.ofChange bitsOnesWrong)

/-- 'sandglasslaw01.BitsApart': WHATEVER THE INPUT: true; the input reads as it did. -/
def bitsApartSpec : ChangeSpec := { name := "bitsApart", fn := fun _ => fun
  | [d1, d2, d3] => { results := [.lit (.bool true)], args := [d1, d2, d3] }
  | _ => none }
def bitsApartRow : OpenClaim := { program := "ytfieaijehkfepaa", sum := "fc28e678c02f39dde670fb429e98d4c0634b40d36137d0d42a5deed9bbec8039", func := "sandglass/sandglasslaw01.BitsApart", spec := "bitsApart", apart := false }
def BitsApartSaid : Prop := bitsApartRow.holds Try.pinned (OpenSpec.ofChange bitsApartSpec)

/-- ITS FALSE NEIGHBOUR: 'it returns false'. Refute it at one input. -/
def bitsApartWrong : ChangeSpec := { name := "bitsApart", fn := fun _ => fun
  | [d1, d2, d3] => { results := [.lit (.bool false)], args := [d1, d2, d3] }
  | _ => none }
def BitsApartWrongFalsely : Prop := bitsApartRow.holds Try.pinned (OpenSpec.ofChange bitsApartWrong)

/- THE SECOND FORM. 'bulk': how many values and letters a reading holds, each counted each time it is reached (what is shared counts as often as it is met; a slice's spare places count too). A statement '..UptoSaid' is the law's where the arguments, and the package variables that the reading takes, are together of bulk at most 1048576: NARROWER than '..Said'. Prove '..Said' where nothing that the law and all that it calls make is longer than what came in: it says more and counts as full. Else prove '..UptoSaid'. A law counts once. -/
mutual
def uptoBulk {H : Type} : DataW H → Nat
  | .lit (.string bytes) => bytes.length + 1
  | .lit _ => 1
  | .nil => 1
  | .ptr d => uptoBulk d + 1
  | .slice elems spare => uptoBulkAll elems + uptoBulkAll spare + 1
  | .agg parts => uptoBulkAll parts + 1
  | .iface _ d => uptoBulk d + 1
  | .map entries => uptoBulkEntries entries + 1
  | .held _ => 1
def uptoBulkAll {H : Type} : List (DataW H) → Nat
  | [] => 0
  | d :: r => uptoBulk d + uptoBulkAll r
def uptoBulkEntries {H : Type} : List (Lit × DataW H) → Nat
  | [] => 0
  | x :: r => uptoBulkEntry x + uptoBulkEntries r
def uptoBulkEntry {H : Type} : Lit × DataW H → Nat
  | (.string bytes, d) => bytes.length + uptoBulk d + 1
  | (_, d) => uptoBulk d + 1
 end
def uptoSmall : (H : Type) → List (DataW H) → Bool := fun _ ds => decide (uptoBulkAll ds ≤ 1048576)
def OpenSpec.upto (s : _root_.Go.ChangeSpec) : _root_.Go.OpenSpec := { _root_.Go.OpenSpec.ofChange s with cond := some uptoSmall }

/-- 'sandglasslaw01.BitsGets', WHERE WHAT IT READS IS OF BULK AT MOST 1048576: true; the input reads as it did. -/
def bitsGetsUptoRow : OpenClaim := { program := "ytfieaijehkfepaa", sum := "fc28e678c02f39dde670fb429e98d4c0634b40d36137d0d42a5deed9bbec8039", func := "sandglass/sandglasslaw01.BitsGets", spec := "bitsGets", apart := false, narrowed := true }
def BitsGetsUptoSaid : Prop := bitsGetsUptoRow.holds Try.pinned (OpenSpec.upto bitsGetsSpec)

/-- 'sandglasslaw01.BitsCounts', WHERE WHAT IT READS IS OF BULK AT MOST 1048576: true; the input reads as it did. -/
def bitsCountsUptoRow : OpenClaim := { program := "ytfieaijehkfepaa", sum := "fc28e678c02f39dde670fb429e98d4c0634b40d36137d0d42a5deed9bbec8039", func := "sandglass/sandglasslaw01.BitsCounts", spec := "bitsCounts", apart := false, narrowed := true }
def BitsCountsUptoSaid : Prop := bitsCountsUptoRow.holds Try.pinned (OpenSpec.upto bitsCountsSpec)

/-- 'sandglasslaw01.BitsPacks', WHERE WHAT IT READS IS OF BULK AT MOST 1048576: true; the input reads as it did. -/
def bitsPacksUptoRow : OpenClaim := { program := "ytfieaijehkfepaa", sum := "fc28e678c02f39dde670fb429e98d4c0634b40d36137d0d42a5deed9bbec8039", func := "sandglass/sandglasslaw01.BitsPacks", spec := "bitsPacks", apart := false, narrowed := true }
def BitsPacksUptoSaid : Prop := bitsPacksUptoRow.holds Try.pinned (OpenSpec.upto bitsPacksSpec)

/-- 'sandglasslaw01.BitsBack', WHERE WHAT IT READS IS OF BULK AT MOST 1048576: true; the input reads as it did. -/
def bitsBackUptoRow : OpenClaim := { program := "ytfieaijehkfepaa", sum := "fc28e678c02f39dde670fb429e98d4c0634b40d36137d0d42a5deed9bbec8039", func := "sandglass/sandglasslaw01.BitsBack", spec := "bitsBack", apart := false, narrowed := true }
def BitsBackUptoSaid : Prop := bitsBackUptoRow.holds Try.pinned (OpenSpec.upto bitsBackSpec)

/-- 'sandglasslaw01.BitsAgain', WHERE WHAT IT READS IS OF BULK AT MOST 1048576: true; the input reads as it did. -/
def bitsAgainUptoRow : OpenClaim := { program := "ytfieaijehkfepaa", sum := "fc28e678c02f39dde670fb429e98d4c0634b40d36137d0d42a5deed9bbec8039", func := "sandglass/sandglasslaw01.BitsAgain", spec := "bitsAgain", apart := false, narrowed := true }
def BitsAgainUptoSaid : Prop := bitsAgainUptoRow.holds Try.pinned (OpenSpec.upto bitsAgainSpec)

/-- 'sandglasslaw01.BitsOnes', WHERE WHAT IT READS IS OF BULK AT MOST 1048576: true; the input reads as it did. -/
def bitsOnesUptoRow : OpenClaim := { program := "ytfieaijehkfepaa", sum := "fc28e678c02f39dde670fb429e98d4c0634b40d36137d0d42a5deed9bbec8039", func := "sandglass/sandglasslaw01.BitsOnes", spec := "bitsOnes", apart := false, narrowed := true }
def BitsOnesUptoSaid : Prop := bitsOnesUptoRow.holds Try.pinned (OpenSpec.upto bitsOnesSpec)

/-- 'sandglasslaw01.BitsApart', WHERE WHAT IT READS IS OF BULK AT MOST 1048576: true; the input reads as it did. -/
def bitsApartUptoRow : OpenClaim := { program := "ytfieaijehkfepaa", sum := "fc28e678c02f39dde670fb429e98d4c0634b40d36137d0d42a5deed9bbec8039", func := "sandglass/sandglasslaw01.BitsApart", spec := "bitsApart", apart := false, narrowed := true }
def BitsApartUptoSaid : Prop := bitsApartUptoRow.holds Try.pinned (OpenSpec.upto bitsApartSpec)

end Rows
end Go.Proofs.Ytfieaijehkfepaa
