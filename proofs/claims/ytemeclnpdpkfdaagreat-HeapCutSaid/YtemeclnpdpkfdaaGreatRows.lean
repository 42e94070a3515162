/-
  No cell of these rows narrows 'for every input' (looked for: loops, veiled, ifaces, maps, wideKeys, modest, calm, conditions, laid).
  DERIVED. THE GIVEN ROWS OF THIS SEAT. 9 by the template 'for every input the law returns true; each argument reads behind the call as it read before'; 0 by the template 'total and deterministic' (their statements: YtemeclnpdpkfdaaGreatTotals.lean).
  GIVEN WITH THE SEED: the statements are not yours to turn. If you find one false, say at which input.
  Laid BY PROGRAM, IN A SANDBOX (cutbox-rows.mjs): the forced cells as the released guide's own fill.sh prints them over the translation 79c8948ad22cfb13… (all of the seat's roots in one cut). By AI agents, Wed Nov 11 2026. No macro, syntax, notation, axiom, sorry.
-/
import Derived.Test.YtemeclnpdpkfdaaGreatChecked
import GoSem.Claim
import GoSem.ClaimJoined
import GoSem.ClaimMapViews
import Derived.JoinedTies
import Derived.KernelRfl
namespace Go.Proofs.YtemeclnpdpkfdaaGreat
/- THE CELL 'sum', in the pinned program and in every row, IS THE sha256 OF THE DUMP (.gsa) THAT YtemeclnpdpkfdaaGreatProg.lean LOADS. Nothing in Lean hashes anything: it is a label: what it is worth is what the hold of that sum in a sandbox is worth. -/
noncomputable def Tryz.pinned : Pinned := { name := "ytemeclnpdpkfdaagreat", sum := "79c8948ad22cfb13fe57077f3690729d589e104257f4c4b7985c3a1ae8386b15", checked := Tryz.checked }
namespace Rows
def none {H : Type} : Left H := { results := [], args := [] }

/-- 'darninglaw21.HeapTwo': WHATEVER THE INPUT: true; the input reads as it did. -/
def heapTwoSpec : ChangeSpec := { name := "heapTwo", fn := fun _ => fun
  | [d1, d2, d3] => { results := [.lit (.bool true)], args := [d1, d2, d3] }
  | _ => none }
def heapTwoRow : OpenClaim := { program := "ytemeclnpdpkfdaagreat", sum := "79c8948ad22cfb13fe57077f3690729d589e104257f4c4b7985c3a1ae8386b15", func := "darning/darninglaw21.HeapTwo", spec := "heapTwo", unfollowed := true, recurses := true, apart := false }
def HeapTwoSaid : Prop := heapTwoRow.holds Tryz.pinned (OpenSpec.ofChange heapTwoSpec)

/-- ITS FALSE NEIGHBOUR: 'it returns false'. Refute it at one input. -/
def heapTwoWrong : ChangeSpec := { name := "heapTwo", fn := fun _ => fun
  | [d1, d2, d3] => { results := [.lit (.bool false)], args := [d1, d2, d3] }
  | _ => none }
def HeapTwoWrongFalsely : Prop := heapTwoRow.holds Tryz.pinned (OpenSpec.ofChange heapTwoWrong)

/-- 'darninglaw21.HeapRoots': WHATEVER THE INPUT: true; the input reads as it did. -/
def heapRootsSpec : ChangeSpec := { name := "heapRoots", fn := fun _ => fun
  | [d1, d2, d3] => { results := [.lit (.bool true)], args := [d1, d2, d3] }
  | _ => none }
def heapRootsRow : OpenClaim := { program := "ytemeclnpdpkfdaagreat", sum := "79c8948ad22cfb13fe57077f3690729d589e104257f4c4b7985c3a1ae8386b15", func := "darning/darninglaw21.HeapRoots", spec := "heapRoots", unfollowed := true, recurses := true, apart := false }
def HeapRootsSaid : Prop := heapRootsRow.holds Tryz.pinned (OpenSpec.ofChange heapRootsSpec)

/-- ITS FALSE NEIGHBOUR: 'it returns false'. Refute it at one input. -/
def heapRootsWrong : ChangeSpec := { name := "heapRoots", fn := fun _ => fun
  | [d1, d2, d3] => { results := [.lit (.bool false)], args := [d1, d2, d3] }
  | _ => none }
def HeapRootsWrongFalsely : Prop := heapRootsRow.holds Tryz.pinned (OpenSpec.ofChange heapRootsWrong)

/-- 'darninglaw21.HeapCounts': WHATEVER THE INPUT: true; the input reads as it did. -/
def heapCountsSpec : ChangeSpec := { name := "heapCounts", fn := fun _ => fun
  | [d1, d2] => { results := [.lit (.bool true)], args := [d1, d2] }
  | _ => none }
def heapCountsRow : OpenClaim := { program := "ytemeclnpdpkfdaagreat", sum := "79c8948ad22cfb13fe57077f3690729d589e104257f4c4b7985c3a1ae8386b15", func := "darning/darninglaw21.HeapCounts", spec := "heapCounts", unfollowed := true, recurses := true, apart := false }
def HeapCountsSaid : Prop := heapCountsRow.holds Tryz.pinned (OpenSpec.ofChange heapCountsSpec)

/-- ITS FALSE NEIGHBOUR: 'it returns false'. Refute it at one input. -/
def heapCountsWrong : ChangeSpec := { name := "heapCounts", fn := fun _ => fun
  | [d1, d2] => { results := [.lit (.bool false)], args := [d1, d2] }
  | _ => none }
def HeapCountsWrongFalsely : Prop := heapCountsRow.holds Tryz.pinned (OpenSpec.ofChange heapCountsWrong)

/-- 'darninglaw21.HeapOpens': WHATEVER THE INPUT: true; the input reads as it did. -/
def heapOpensSpec : ChangeSpec := { name := "heapOpens", fn := fun _ => fun
  | [d1, d2] => { results := [.lit (.bool true)], args := [d1, d2] }
  | _ => none }
def heapOpensRow : OpenClaim := { program := "ytemeclnpdpkfdaagreat", sum := "79c8948ad22cfb13fe57077f3690729d589e104257f4c4b7985c3a1ae8386b15", func := "darning/darninglaw21.HeapOpens", spec := "heapOpens", unfollowed := true, recurses := true, apart := false }
def HeapOpensSaid : Prop := heapOpensRow.holds Tryz.pinned (OpenSpec.ofChange heapOpensSpec)

/-- ITS FALSE NEIGHBOUR: 'it returns false'. Refute it at one input. -/
def heapOpensWrong : ChangeSpec := { name := "heapOpens", fn := fun _ => fun
  | [d1, d2] => { results := [.lit (.bool false)], args := [d1, d2] }
  | _ => none }
def HeapOpensWrongFalsely : Prop := heapOpensRow.holds Tryz.pinned (OpenSpec.ofChange heapOpensWrong)

/-- 'darninglaw21.HeapCut': WHATEVER THE INPUT: true; the input reads as it did. -/
def heapCutSpec : ChangeSpec := { name := "heapCut", fn := fun _ => fun
  | [d1, d2, d3, d4, d5, d6, d7] => { results := [.lit (.bool true)], args := [d1, d2, d3, d4, d5, d6, d7] }
  | _ => none }
def heapCutRow : OpenClaim := { program := "ytemeclnpdpkfdaagreat", sum := "79c8948ad22cfb13fe57077f3690729d589e104257f4c4b7985c3a1ae8386b15", func := "darning/darninglaw21.HeapCut", spec := "heapCut", unfollowed := true, recurses := true, apart := false }
def HeapCutSaid : Prop := heapCutRow.holds Tryz.pinned (OpenSpec.ofChange heapCutSpec)

/-- ITS FALSE NEIGHBOUR: 'it returns false'. Refute it at one input. -/
def heapCutWrong : ChangeSpec := { name := "heapCut", fn := fun _ => fun
  | [d1, d2, d3, d4, d5, d6, d7] => { results := [.lit (.bool false)], args := [d1, d2, d3, d4, d5, d6, d7] }
  | _ => none }
def HeapCutWrongFalsely : Prop := heapCutRow.holds Tryz.pinned (OpenSpec.ofChange heapCutWrong)

/-- 'darninglaw21.HeapDark': WHATEVER THE INPUT: true; the input reads as it did. -/
def heapDarkSpec : ChangeSpec := { name := "heapDark", fn := fun _ => fun
  | [d1, d2, d3] => { results := [.lit (.bool true)], args := [d1, d2, d3] }
  | _ => none }
def heapDarkRow : OpenClaim := { program := "ytemeclnpdpkfdaagreat", sum := "79c8948ad22cfb13fe57077f3690729d589e104257f4c4b7985c3a1ae8386b15", func := "darning/darninglaw21.HeapDark", spec := "heapDark", unfollowed := true, recurses := true, apart := false }
def HeapDarkSaid : Prop := heapDarkRow.holds Tryz.pinned (OpenSpec.ofChange heapDarkSpec)

/-- ITS FALSE NEIGHBOUR: 'it returns false'. Refute it at one input. -/
def heapDarkWrong : ChangeSpec := { name := "heapDark", fn := fun _ => fun
  | [d1, d2, d3] => { results := [.lit (.bool false)], args := [d1, d2, d3] }
  | _ => none }
def HeapDarkWrongFalsely : Prop := heapDarkRow.holds Tryz.pinned (OpenSpec.ofChange heapDarkWrong)

/-- 'darninglaw21.HeapReads': WHATEVER THE INPUT: true; the input reads as it did. -/
def heapReadsSpec : ChangeSpec := { name := "heapReads", fn := fun _ => fun
  | [d1, d2, d3] => { results := [.lit (.bool true)], args := [d1, d2, d3] }
  | _ => none }
def heapReadsRow : OpenClaim := { program := "ytemeclnpdpkfdaagreat", sum := "79c8948ad22cfb13fe57077f3690729d589e104257f4c4b7985c3a1ae8386b15", func := "darning/darninglaw21.HeapReads", spec := "heapReads", unfollowed := true, recurses := true, apart := false }
def HeapReadsSaid : Prop := heapReadsRow.holds Tryz.pinned (OpenSpec.ofChange heapReadsSpec)

/-- ITS FALSE NEIGHBOUR: 'it returns false'. Refute it at one input. -/
def heapReadsWrong : ChangeSpec := { name := "heapReads", fn := fun _ => fun
  | [d1, d2, d3] => { results := [.lit (.bool false)], args := [d1, d2, d3] }
  | _ => none }
def HeapReadsWrongFalsely : Prop := heapReadsRow.holds Tryz.pinned (OpenSpec.ofChange heapReadsWrong)

/-- 'darninglaw21.HeapRuns': WHATEVER THE INPUT: true; the input reads as it did. -/
def heapRunsSpec : ChangeSpec := { name := "heapRuns", fn := fun _ => fun
  | [d1, d2, d3] => { results := [.lit (.bool true)], args := [d1, d2, d3] }
  | _ => none }
def heapRunsRow : OpenClaim := { program := "ytemeclnpdpkfdaagreat", sum := "79c8948ad22cfb13fe57077f3690729d589e104257f4c4b7985c3a1ae8386b15", func := "darning/darninglaw21.HeapRuns", spec := "heapRuns", unfollowed := true, recurses := true, apart := false }
def HeapRunsSaid : Prop := heapRunsRow.holds Tryz.pinned (OpenSpec.ofChange heapRunsSpec)

/-- ITS FALSE NEIGHBOUR: 'it returns false'. Refute it at one input. -/
def heapRunsWrong : ChangeSpec := { name := "heapRuns", fn := fun _ => fun
  | [d1, d2, d3] => { results := [.lit (.bool false)], args := [d1, d2, d3] }
  | _ => none }
def HeapRunsWrongFalsely : Prop := heapRunsRow.holds Tryz.pinned (OpenSpec.ofChange heapRunsWrong)

/-- 'darninglaw21.HeapNil': WHATEVER THE INPUT: true; the input reads as it did. -/
def heapNilSpec : ChangeSpec := { name := "heapNil", fn := fun _ => fun
  | [d1, d2] => { results := [.lit (.bool true)], args := [d1, d2] }
  | _ => none }
def heapNilRow : OpenClaim := { program := "ytemeclnpdpkfdaagreat", sum := "79c8948ad22cfb13fe57077f3690729d589e104257f4c4b7985c3a1ae8386b15", func := "darning/darninglaw21.HeapNil", spec := "heapNil", unfollowed := true, recurses := true, apart := false }
def HeapNilSaid : Prop := heapNilRow.holds Tryz.pinned (OpenSpec.ofChange heapNilSpec)

/-- ITS FALSE NEIGHBOUR: 'it returns false'. Refute it at one input. -/
def heapNilWrong : ChangeSpec := { name := "heapNil", fn := fun _ => fun
  | [d1, d2] => { results := [.lit (.bool false)], args := [d1, d2] }
  | _ => none }
def HeapNilWrongFalsely : Prop := heapNilRow.holds Tryz.pinned (OpenSpec.ofChange heapNilWrong)

/- THE SECOND FORM. 'bulk': how many values and letters a reading holds, each counted each time it is reached (what is shared counts as often as it is met; a slice's spare places count too). A statement '..UptoSaid' is the law's where the arguments, and the package variables that the reading takes, are together of bulk at most 1048576: NARROWER than '..Said'. Prove '..Said' where nothing that the law and all that it calls make is longer than what came in: it says more and counts as full. Else prove '..UptoSaid'. A law counts once. -/
mutual
def uptoBulk {H : Type} : DataW H → Nat
  | .lit (.string bytes) => bytes.length + 1
  | .lit _ => 1
  | .nil => 1
  | .ptr d => uptoBulk d + 1
  | .slice elems spare => uptoBulkAll elems + uptoBulkAll spare + 1
  | .agg parts => uptoBulkAll parts + 1
  | .iface _ d => uptoBulk d + 1
  | .map entries => uptoBulkEntries entries + 1
  | .held _ => 1
def uptoBulkAll {H : Type} : List (DataW H) → Nat
  | [] => 0
  | d :: r => uptoBulk d + uptoBulkAll r
def uptoBulkEntries {H : Type} : List (Lit × DataW H) → Nat
  | [] => 0
  | x :: r => uptoBulkEntry x + uptoBulkEntries r
def uptoBulkEntry {H : Type} : Lit × DataW H → Nat
  | (.string bytes, d) => bytes.length + uptoBulk d + 1
  | (_, d) => uptoBulk d + 1
 end
def uptoSmall : (H : Type) → List (DataW H) → Bool := fun _ ds => decide (uptoBulkAll ds ≤ 1048576)
def OpenSpec.upto (s : _root_.Go.ChangeSpec) : _root_.Go.OpenSpec := { _root_.Go.OpenSpec.ofChange s with cond := some uptoSmall }

/-- 'darninglaw21.HeapTwo', WHERE WHAT IT READS IS OF BULK AT MOST 1048576: true; the input reads as it did. -/
def heapTwoUptoRow : OpenClaim := { program := "ytemeclnpdpkfdaagreat", sum := "79c8948ad22cfb13fe57077f3690729d589e104257f4c4b7985c3a1ae8386b15", func := "darning/darninglaw21.HeapTwo", spec := "heapTwo", unfollowed := true, recurses := true, apart := false, narrowed := true }
def HeapTwoUptoSaid : Prop := heapTwoUptoRow.holds Tryz.pinned (OpenSpec.upto heapTwoSpec)

/-- 'darninglaw21.HeapRoots', WHERE WHAT IT READS IS OF BULK AT MOST 1048576: true; the input reads as it did. -/
def heapRootsUptoRow : OpenClaim := { program := "ytemeclnpdpkfdaagreat", sum := "79c8948ad22cfb13fe57077f3690729d589e104257f4c4b7985c3a1ae8386b15", func := "darning/darninglaw21.HeapRoots", spec := "heapRoots", unfollowed := true, recurses := true, apart := false, narrowed := true }
def HeapRootsUptoSaid : Prop := heapRootsUptoRow.holds Tryz.pinned (OpenSpec.upto heapRootsSpec)

/-- 'darninglaw21.HeapCounts', WHERE WHAT IT READS IS OF BULK AT MOST 1048576: true; the input reads as it did. -/
def heapCountsUptoRow : OpenClaim := { program := "ytemeclnpdpkfdaagreat", sum := "79c8948ad22cfb13fe57077f3690729d589e104257f4c4b7985c3a1ae8386b15", func := "darning/darninglaw21.HeapCounts", spec := "heapCounts", unfollowed := true, recurses := true, apart := false, narrowed := true }
def HeapCountsUptoSaid : Prop := heapCountsUptoRow.holds Tryz.pinned (OpenSpec.upto heapCountsSpec)

/-- 'darninglaw21.HeapOpens', WHERE WHAT IT READS IS OF BULK AT MOST 1048576: true; the input reads as it did. -/
def heapOpensUptoRow : OpenClaim := { program := "ytemeclnpdpkfdaagreat", sum := "79c8948ad22cfb13fe57077f3690729d589e104257f4c4b7985c3a1ae8386b15", func := "darning/darninglaw21.HeapOpens", spec := "heapOpens", unfollowed := true, recurses := true, apart := false, narrowed := true }
def HeapOpensUptoSaid : Prop := heapOpensUptoRow.holds Tryz.pinned (OpenSpec.upto heapOpensSpec)

/-- 'darninglaw21.HeapCut', WHERE WHAT IT READS IS OF BULK AT MOST 1048576: true; the input reads as it did. -/
def heapCutUptoRow : OpenClaim := { program := "ytemeclnpdpkfdaagreat", sum := "79c8948ad22cfb13fe57077f3690729d589e104257f4c4b7985c3a1ae8386b15", func := "darning/darninglaw21.HeapCut", spec := "heapCut", unfollowed := true, recurses := true, apart := false, narrowed := true }
def HeapCutUptoSaid : Prop := heapCutUptoRow.holds Tryz.pinned (OpenSpec.upto heapCutSpec)

/-- 'darninglaw21.HeapDark', WHERE WHAT IT READS IS OF BULK AT MOST 1048576: true; the input reads as it did. -/
def heapDarkUptoRow : OpenClaim := { program := "ytemeclnpdpkfdaagreat", sum := "79c8948ad22cfb13fe57077f3690729d589e104257f4c4b7985c3a1ae8386b15", func := "darning/darninglaw21.HeapDark", spec := "heapDark", unfollowed := true, recurses := true, apart := false, narrowed := true }
def HeapDarkUptoSaid : Prop := heapDarkUptoRow.holds Tryz.pinned (OpenSpec.upto heapDarkSpec)

/-- 'darninglaw21.HeapReads', WHERE WHAT IT READS IS OF BULK AT MOST 1048576: true; the input reads as it did. -/
def heapReadsUptoRow : OpenClaim := { program := "ytemeclnpdpkfdaagreat", sum := "79c8948ad22cfb13fe57077f3690729d589e104257f4c4b7985c3a1ae8386b15", func := "darning/darninglaw21.HeapReads", spec := "heapReads", unfollowed := true, recurses := true, apart := false, narrowed := true }
def HeapReadsUptoSaid : Prop := heapReadsUptoRow.holds Tryz.pinned (OpenSpec.upto heapReadsSpec)

/-- 'darninglaw21.HeapRuns', WHERE WHAT IT READS IS OF BULK AT MOST 1048576: true; the input reads as it did. -/
def heapRunsUptoRow : OpenClaim := { program := "ytemeclnpdpkfdaagreat", sum := "79c8948ad22cfb13fe57077f3690729d589e104257f4c4b7985c3a1ae8386b15", func := "darning/darninglaw21.HeapRuns", spec := "heapRuns", unfollowed := true, recurses := true, apart := false, narrowed := true }
def HeapRunsUptoSaid : Prop := heapRunsUptoRow.holds Tryz.pinned (OpenSpec.upto heapRunsSpec)

/-- 'darninglaw21.HeapNil', WHERE WHAT IT READS IS OF BULK AT MOST 1048576: true; the input reads as it did. -/
def heapNilUptoRow : OpenClaim := { program := "ytemeclnpdpkfdaagreat", sum := "79c8948ad22cfb13fe57077f3690729d589e104257f4c4b7985c3a1ae8386b15", func := "darning/darninglaw21.HeapNil", spec := "heapNil", unfollowed := true, recurses := true, apart := false, narrowed := true }
def HeapNilUptoSaid : Prop := heapNilUptoRow.holds Tryz.pinned (OpenSpec.upto heapNilSpec)

end Rows
end Go.Proofs.YtemeclnpdpkfdaaGreat
