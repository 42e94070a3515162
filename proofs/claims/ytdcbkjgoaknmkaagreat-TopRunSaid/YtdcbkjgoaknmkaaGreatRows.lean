/-
  No cell of these rows narrows 'for every input' (looked for: loops, veiled, ifaces, maps, wideKeys, modest, calm, conditions, laid).
  DERIVED. THE GIVEN ROWS OF THIS SEAT. 9 by the template 'for every input the law returns true; each argument reads behind the call as it read before'; 0 by the template 'total and deterministic' (their statements: YtdcbkjgoaknmkaaGreatTotals.lean).
  GIVEN WITH THE SEED: the statements are not yours to turn. If you find one false, say at which input.
  Laid BY PROGRAM, IN A SANDBOX (cutbox-rows.mjs): the forced cells as the released guide's own fill.sh prints them over the translation c991bb4dbd76974f… (all of the seat's roots in one cut). By AI agents, Wed Nov 11 2026. No macro, syntax, notation, axiom, sorry.
-/
import Derived.Test.YtdcbkjgoaknmkaaGreatChecked
import GoSem.Claim
import GoSem.ClaimJoined
import GoSem.ClaimMapViews
import Derived.JoinedTies
import Derived.KernelRfl
namespace Go.Proofs.YtdcbkjgoaknmkaaGreat
/- THE CELL 'sum', in the pinned program and in every row, IS THE sha256 OF THE DUMP (.gsa) THAT YtdcbkjgoaknmkaaGreatProg.lean LOADS. Nothing in Lean hashes anything: it is a label: what it is worth is what the hold of that sum in a sandbox is worth. -/
noncomputable def Tryz.pinned : Pinned := { name := "ytdcbkjgoaknmkaagreat", sum := "c991bb4dbd76974f001b17edaf0dee8523f7aaf92fdf39b0c6ce6ecd467605cd", checked := Tryz.checked }
namespace Rows
def none {H : Type} : Left H := { results := [], args := [] }

/-- 'darningtop.TopLives': WHATEVER THE INPUT: true; the input reads as it did. -/
def topLivesSpec : ChangeSpec := { name := "topLives", fn := fun _ => fun
  | [d1, d2, d3] => { results := [.lit (.bool true)], args := [d1, d2, d3] }
  | _ => none }
def topLivesRow : OpenClaim := { program := "ytdcbkjgoaknmkaagreat", sum := "c991bb4dbd76974f001b17edaf0dee8523f7aaf92fdf39b0c6ce6ecd467605cd", func := "darning/darningtop.TopLives", spec := "topLives", unfollowed := true, recurses := true, apart := false }
def TopLivesSaid : Prop := topLivesRow.holds Tryz.pinned (OpenSpec.ofChange topLivesSpec)

/-- ITS FALSE NEIGHBOUR: 'it returns false'. Refute it at one input. -/
def topLivesWrong : ChangeSpec := { name := "topLives", fn := fun _ => fun
  | [d1, d2, d3] => { results := [.lit (.bool false)], args := [d1, d2, d3] }
  | _ => none }
def TopLivesWrongFalsely : Prop := topLivesRow.holds Tryz.pinned (OpenSpec.ofChange topLivesWrong)

/-- 'darningtop.TopBytes': WHATEVER THE INPUT: true; the input reads as it did. -/
def topBytesSpec : ChangeSpec := { name := "topBytes", fn := fun _ => fun
  | [d1, d2, d3] => { results := [.lit (.bool true)], args := [d1, d2, d3] }
  | _ => none }
def topBytesRow : OpenClaim := { program := "ytdcbkjgoaknmkaagreat", sum := "c991bb4dbd76974f001b17edaf0dee8523f7aaf92fdf39b0c6ce6ecd467605cd", func := "darning/darningtop.TopBytes", spec := "topBytes", unfollowed := true, recurses := true, apart := false }
def TopBytesSaid : Prop := topBytesRow.holds Tryz.pinned (OpenSpec.ofChange topBytesSpec)

/-- ITS FALSE NEIGHBOUR: 'it returns false'. Refute it at one input. -/
def topBytesWrong : ChangeSpec := { name := "topBytes", fn := fun _ => fun
  | [d1, d2, d3] => { results := [.lit (.bool false)], args := [d1, d2, d3] }
  | _ => none }
def TopBytesWrongFalsely : Prop := topBytesRow.holds Tryz.pinned (OpenSpec.ofChange topBytesWrong)

/-- 'darningtop.TopPrice': WHATEVER THE INPUT: true; the input reads as it did. -/
def topPriceSpec : ChangeSpec := { name := "topPrice", fn := fun _ => fun
  | [d1, d2] => { results := [.lit (.bool true)], args := [d1, d2] }
  | _ => none }
def topPriceRow : OpenClaim := { program := "ytdcbkjgoaknmkaagreat", sum := "c991bb4dbd76974f001b17edaf0dee8523f7aaf92fdf39b0c6ce6ecd467605cd", func := "darning/darningtop.TopPrice", spec := "topPrice", unfollowed := true, recurses := true, apart := false }
def TopPriceSaid : Prop := topPriceRow.holds Tryz.pinned (OpenSpec.ofChange topPriceSpec)

/-- ITS FALSE NEIGHBOUR: 'it returns false'. Refute it at one input. -/
def topPriceWrong : ChangeSpec := { name := "topPrice", fn := fun _ => fun
  | [d1, d2] => { results := [.lit (.bool false)], args := [d1, d2] }
  | _ => none }
def TopPriceWrongFalsely : Prop := topPriceRow.holds Tryz.pinned (OpenSpec.ofChange topPriceWrong)

/-- 'darninglaw26.TowerRuns': WHATEVER THE INPUT: true; the input reads as it did. -/
def towerRunsSpec : ChangeSpec := { name := "towerRuns", fn := fun _ => fun
  | [d1, d2, d3] => { results := [.lit (.bool true)], args := [d1, d2, d3] }
  | _ => none }
def towerRunsRow : OpenClaim := { program := "ytdcbkjgoaknmkaagreat", sum := "c991bb4dbd76974f001b17edaf0dee8523f7aaf92fdf39b0c6ce6ecd467605cd", func := "darning/darninglaw26.TowerRuns", spec := "towerRuns", unfollowed := true, recurses := true, apart := false }
def TowerRunsSaid : Prop := towerRunsRow.holds Tryz.pinned (OpenSpec.ofChange towerRunsSpec)

/-- ITS FALSE NEIGHBOUR: 'it returns false'. Refute it at one input. -/
def towerRunsWrong : ChangeSpec := { name := "towerRuns", fn := fun _ => fun
  | [d1, d2, d3] => { results := [.lit (.bool false)], args := [d1, d2, d3] }
  | _ => none }
def TowerRunsWrongFalsely : Prop := towerRunsRow.holds Tryz.pinned (OpenSpec.ofChange towerRunsWrong)

/-- 'darninglaw26.TowerAgain': WHATEVER THE INPUT: true; the input reads as it did. -/
def towerAgainSpec : ChangeSpec := { name := "towerAgain", fn := fun _ => fun
  | [d1, d2, d3] => { results := [.lit (.bool true)], args := [d1, d2, d3] }
  | _ => none }
def towerAgainRow : OpenClaim := { program := "ytdcbkjgoaknmkaagreat", sum := "c991bb4dbd76974f001b17edaf0dee8523f7aaf92fdf39b0c6ce6ecd467605cd", func := "darning/darninglaw26.TowerAgain", spec := "towerAgain", unfollowed := true, recurses := true, apart := false }
def TowerAgainSaid : Prop := towerAgainRow.holds Tryz.pinned (OpenSpec.ofChange towerAgainSpec)

/-- ITS FALSE NEIGHBOUR: 'it returns false'. Refute it at one input. -/
def towerAgainWrong : ChangeSpec := { name := "towerAgain", fn := fun _ => fun
  | [d1, d2, d3] => { results := [.lit (.bool false)], args := [d1, d2, d3] }
  | _ => none }
def TowerAgainWrongFalsely : Prop := towerAgainRow.holds Tryz.pinned (OpenSpec.ofChange towerAgainWrong)

/-- 'darninglaw26.TowerNil': WHATEVER THE INPUT: true; the input reads as it did. -/
def towerNilSpec : ChangeSpec := { name := "towerNil", fn := fun _ => fun
  | [d] => { results := [.lit (.bool true)], args := [d] }
  | _ => none }
def towerNilRow : OpenClaim := { program := "ytdcbkjgoaknmkaagreat", sum := "c991bb4dbd76974f001b17edaf0dee8523f7aaf92fdf39b0c6ce6ecd467605cd", func := "darning/darninglaw26.TowerNil", spec := "towerNil", unfollowed := true, recurses := true, apart := false }
def TowerNilSaid : Prop := towerNilRow.holds Tryz.pinned (OpenSpec.ofChange towerNilSpec)

/-- ITS FALSE NEIGHBOUR: 'it returns false'. Refute it at one input. -/
def towerNilWrong : ChangeSpec := { name := "towerNil", fn := fun _ => fun
  | [d] => { results := [.lit (.bool false)], args := [d] }
  | _ => none }
def TowerNilWrongFalsely : Prop := towerNilRow.holds Tryz.pinned (OpenSpec.ofChange towerNilWrong)

/-- 'darninglaw26.TowerCosts': WHATEVER THE INPUT: true; the input reads as it did. -/
def towerCostsSpec : ChangeSpec := { name := "towerCosts", fn := fun _ => fun
  | [d1, d2, d3] => { results := [.lit (.bool true)], args := [d1, d2, d3] }
  | _ => none }
def towerCostsRow : OpenClaim := { program := "ytdcbkjgoaknmkaagreat", sum := "c991bb4dbd76974f001b17edaf0dee8523f7aaf92fdf39b0c6ce6ecd467605cd", func := "darning/darninglaw26.TowerCosts", spec := "towerCosts", unfollowed := true, recurses := true, apart := false }
def TowerCostsSaid : Prop := towerCostsRow.holds Tryz.pinned (OpenSpec.ofChange towerCostsSpec)

/-- ITS FALSE NEIGHBOUR: 'it returns false'. Refute it at one input. -/
def towerCostsWrong : ChangeSpec := { name := "towerCosts", fn := fun _ => fun
  | [d1, d2, d3] => { results := [.lit (.bool false)], args := [d1, d2, d3] }
  | _ => none }
def TowerCostsWrongFalsely : Prop := towerCostsRow.holds Tryz.pinned (OpenSpec.ofChange towerCostsWrong)

/-- 'darninglaw25.JudgeHeap': WHATEVER THE INPUT: true; the input reads as it did. -/
def judgeHeapSpec : ChangeSpec := { name := "judgeHeap", fn := fun _ => fun
  | [d1, d2, d3] => { results := [.lit (.bool true)], args := [d1, d2, d3] }
  | _ => none }
def judgeHeapRow : OpenClaim := { program := "ytdcbkjgoaknmkaagreat", sum := "c991bb4dbd76974f001b17edaf0dee8523f7aaf92fdf39b0c6ce6ecd467605cd", func := "darning/darninglaw25.JudgeHeap", spec := "judgeHeap", inPlace := ["slices.overlaps[darning/model.extent]"], unfollowed := true, recurses := true, apart := false }
def JudgeHeapSaid : Prop := judgeHeapRow.holds Tryz.pinned (OpenSpec.ofChange judgeHeapSpec)

/-- ITS FALSE NEIGHBOUR: 'it returns false'. Refute it at one input. -/
def judgeHeapWrong : ChangeSpec := { name := "judgeHeap", fn := fun _ => fun
  | [d1, d2, d3] => { results := [.lit (.bool false)], args := [d1, d2, d3] }
  | _ => none }
def JudgeHeapWrongFalsely : Prop := judgeHeapRow.holds Tryz.pinned (OpenSpec.ofChange judgeHeapWrong)

/-- 'darningtop.TopRun': WHATEVER THE INPUT: true; the input reads as it did. -/
def topRunSpec : ChangeSpec := { name := "topRun", fn := fun _ => fun
  | [d1, d2, d3] => { results := [.lit (.bool true)], args := [d1, d2, d3] }
  | _ => none }
def topRunRow : OpenClaim := { program := "ytdcbkjgoaknmkaagreat", sum := "c991bb4dbd76974f001b17edaf0dee8523f7aaf92fdf39b0c6ce6ecd467605cd", func := "darning/darningtop.TopRun", spec := "topRun", inPlace := ["slices.overlaps[darning/model.extent]"], unfollowed := true, recurses := true, apart := false }
def TopRunSaid : Prop := topRunRow.holds Tryz.pinned (OpenSpec.ofChange topRunSpec)

/-- ITS FALSE NEIGHBOUR: 'it returns false'. Refute it at one input. -/
def topRunWrong : ChangeSpec := { name := "topRun", fn := fun _ => fun
  | [d1, d2, d3] => { results := [.lit (.bool false)], args := [d1, d2, d3] }
  | _ => none }
def TopRunWrongFalsely : Prop := topRunRow.holds Tryz.pinned (OpenSpec.ofChange topRunWrong)

/- THE SECOND FORM. 'bulk': how many values and letters a reading holds, each counted each time it is reached (what is shared counts as often as it is met; a slice's spare places count too). A statement '..UptoSaid' is the law's where the arguments, and the package variables that the reading takes, are together of bulk at most 1048576: NARROWER than '..Said'. Prove '..Said' where nothing that the law and all that it calls make is longer than what came in: it says more and counts as full. Else prove '..UptoSaid'. A law counts once. -/
mutual
def uptoBulk {H : Type} : DataW H → Nat
  | .lit (.string bytes) => bytes.length + 1
  | .lit _ => 1
  | .nil => 1
  | .ptr d => uptoBulk d + 1
  | .slice elems spare => uptoBulkAll elems + uptoBulkAll spare + 1
  | .agg parts => uptoBulkAll parts + 1
  | .iface _ d => uptoBulk d + 1
  | .map entries => uptoBulkEntries entries + 1
  | .held _ => 1
def uptoBulkAll {H : Type} : List (DataW H) → Nat
  | [] => 0
  | d :: r => uptoBulk d + uptoBulkAll r
def uptoBulkEntries {H : Type} : List (Lit × DataW H) → Nat
  | [] => 0
  | x :: r => uptoBulkEntry x + uptoBulkEntries r
def uptoBulkEntry {H : Type} : Lit × DataW H → Nat
  | (.string bytes, d) => bytes.length + uptoBulk d + 1
  | (_, d) => uptoBulk d + 1
 end
def uptoSmall : (H : Type) → List (DataW H) → Bool := fun _ ds => decide (uptoBulkAll ds ≤ 1048576)
def OpenSpec.upto (s : _root_.Go.ChangeSpec) : _root_.Go.OpenSpec := { _root_.Go.OpenSpec.ofChange s with cond := some uptoSmall }

/-- 'darningtop.TopLives', WHERE WHAT IT READS IS OF BULK AT MOST 1048576: true; the input reads as it did. -/
def topLivesUptoRow : OpenClaim := { program := "ytdcbkjgoaknmkaagreat", sum := "c991bb4dbd76974f001b17edaf0dee8523f7aaf92fdf39b0c6ce6ecd467605cd", func := "darning/darningtop.TopLives", spec := "topLives", unfollowed := true, recurses := true, apart := false, narrowed := true }
def TopLivesUptoSaid : Prop := topLivesUptoRow.holds Tryz.pinned (OpenSpec.upto topLivesSpec)

/-- 'darningtop.TopBytes', WHERE WHAT IT READS IS OF BULK AT MOST 1048576: true; the input reads as it did. -/
def topBytesUptoRow : OpenClaim := { program := "ytdcbkjgoaknmkaagreat", sum := "c991bb4dbd76974f001b17edaf0dee8523f7aaf92fdf39b0c6ce6ecd467605cd", func := "darning/darningtop.TopBytes", spec := "topBytes", unfollowed := true, recurses := true, apart := false, narrowed := true }
def TopBytesUptoSaid : Prop := topBytesUptoRow.holds Tryz.pinned (OpenSpec.upto topBytesSpec)

/-- 'darningtop.TopPrice', WHERE WHAT IT READS IS OF BULK AT MOST 1048576: true; the input reads as it did. -/
def topPriceUptoRow : OpenClaim := { program := "ytdcbkjgoaknmkaagreat", sum := "c991bb4dbd76974f001b17edaf0dee8523f7aaf92fdf39b0c6ce6ecd467605cd", func := "darning/darningtop.TopPrice", spec := "topPrice", unfollowed := true, recurses := true, apart := false, narrowed := true }
def TopPriceUptoSaid : Prop := topPriceUptoRow.holds Tryz.pinned (OpenSpec.upto topPriceSpec)

/-- 'darninglaw26.TowerRuns', WHERE WHAT IT READS IS OF BULK AT MOST 1048576: true; the input reads as it did. -/
def towerRunsUptoRow : OpenClaim := { program := "ytdcbkjgoaknmkaagreat", sum := "c991bb4dbd76974f001b17edaf0dee8523f7aaf92fdf39b0c6ce6ecd467605cd", func := "darning/darninglaw26.TowerRuns", spec := "towerRuns", unfollowed := true, recurses := true, apart := false, narrowed := true }
def TowerRunsUptoSaid : Prop := towerRunsUptoRow.holds Tryz.pinned (OpenSpec.upto towerRunsSpec)

/-- 'darninglaw26.TowerAgain', WHERE WHAT IT READS IS OF BULK AT MOST 1048576: true; the input reads as it did. -/
def towerAgainUptoRow : OpenClaim := { program := "ytdcbkjgoaknmkaagreat", sum := "c991bb4dbd76974f001b17edaf0dee8523f7aaf92fdf39b0c6ce6ecd467605cd", func := "darning/darninglaw26.TowerAgain", spec := "towerAgain", unfollowed := true, recurses := true, apart := false, narrowed := true }
def TowerAgainUptoSaid : Prop := towerAgainUptoRow.holds Tryz.pinned (OpenSpec.upto towerAgainSpec)

/-- 'darninglaw26.TowerNil', WHERE WHAT IT READS IS OF BULK AT MOST 1048576: true; the input reads as it did. -/
def towerNilUptoRow : OpenClaim := { program := "ytdcbkjgoaknmkaagreat", sum := "c991bb4dbd76974f001b17edaf0dee8523f7aaf92fdf39b0c6ce6ecd467605cd", func := "darning/darninglaw26.TowerNil", spec := "towerNil", unfollowed := true, recurses := true, apart := false, narrowed := true }
def TowerNilUptoSaid : Prop := towerNilUptoRow.holds Tryz.pinned (OpenSpec.upto towerNilSpec)

/-- 'darninglaw26.TowerCosts', WHERE WHAT IT READS IS OF BULK AT MOST 1048576: true; the input reads as it did. -/
def towerCostsUptoRow : OpenClaim := { program := "ytdcbkjgoaknmkaagreat", sum := "c991bb4dbd76974f001b17edaf0dee8523f7aaf92fdf39b0c6ce6ecd467605cd", func := "darning/darninglaw26.TowerCosts", spec := "towerCosts", unfollowed := true, recurses := true, apart := false, narrowed := true }
def TowerCostsUptoSaid : Prop := towerCostsUptoRow.holds Tryz.pinned (OpenSpec.upto towerCostsSpec)

/-- 'darninglaw25.JudgeHeap', WHERE WHAT IT READS IS OF BULK AT MOST 1048576: true; the input reads as it did. -/
def judgeHeapUptoRow : OpenClaim := { program := "ytdcbkjgoaknmkaagreat", sum := "c991bb4dbd76974f001b17edaf0dee8523f7aaf92fdf39b0c6ce6ecd467605cd", func := "darning/darninglaw25.JudgeHeap", spec := "judgeHeap", inPlace := ["slices.overlaps[darning/model.extent]"], unfollowed := true, recurses := true, apart := false, narrowed := true }
def JudgeHeapUptoSaid : Prop := judgeHeapUptoRow.holds Tryz.pinned (OpenSpec.upto judgeHeapSpec)

/-- 'darningtop.TopRun', WHERE WHAT IT READS IS OF BULK AT MOST 1048576: true; the input reads as it did. -/
def topRunUptoRow : OpenClaim := { program := "ytdcbkjgoaknmkaagreat", sum := "c991bb4dbd76974f001b17edaf0dee8523f7aaf92fdf39b0c6ce6ecd467605cd", func := "darning/darningtop.TopRun", spec := "topRun", inPlace := ["slices.overlaps[darning/model.extent]"], unfollowed := true, recurses := true, apart := false, narrowed := true }
def TopRunUptoSaid : Prop := topRunUptoRow.holds Tryz.pinned (OpenSpec.upto topRunSpec)

end Rows
end Go.Proofs.YtdcbkjgoaknmkaaGreat
