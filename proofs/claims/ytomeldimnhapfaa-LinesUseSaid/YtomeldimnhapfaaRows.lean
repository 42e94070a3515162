/-
  No cell of these rows narrows 'for every input' (looked for: loops, veiled, ifaces, maps, wideKeys, modest, calm, conditions, laid).
  DERIVED. THE GIVEN ROWS OF THIS SEAT. 11 by the template 'for every input the law returns true; each argument reads behind the call as it read before'; 0 by the template 'total and deterministic' (their statements: YtomeldimnhapfaaTotals.lean).
  GIVEN WITH THE SEED: the statements are not yours to turn. If you find one false, say at which input.
  Laid BY PROGRAM, IN A SANDBOX (cutbox-rows.mjs): the forced cells as the released guide's own fill.sh prints them over the translation 2d274144de637dfd… (all of the seat's roots in one cut). By AI agents, Wed Nov 11 2026. No macro, syntax, notation, axiom, sorry.
-/
import Derived.Test.YtomeldimnhapfaaChecked
import GoSem.Claim
import GoSem.ClaimJoined
import GoSem.ClaimMapViews
import Derived.JoinedTies
import Derived.KernelRfl
namespace Go.Proofs.Ytomeldimnhapfaa
/- THE CELL 'sum', in the pinned program and in every row, IS THE sha256 OF THE DUMP (.gsa) THAT YtomeldimnhapfaaProg.lean LOADS. Nothing in Lean hashes anything: it is a label: what it is worth is what the hold of that sum in a sandbox is worth. -/
noncomputable def Try.pinned : Pinned := { name := "ytomeldimnhapfaa", sum := "2d274144de637dfdbc2d89c2585033aafa6ceda07d6527e2e55853d6216a0685", checked := Try.checked }
namespace Rows
def none {H : Type} : Left H := { results := [], args := [] }

/-- 'darninglaw5.NvmLasts': WHATEVER THE INPUT: true; the input reads as it did. -/
def nvmLastsSpec : ChangeSpec := { name := "nvmLasts", fn := fun _ => fun
  | [d1, d2] => { results := [.lit (.bool true)], args := [d1, d2] }
  | _ => none }
def nvmLastsRow : OpenClaim := { program := "ytomeldimnhapfaa", sum := "2d274144de637dfdbc2d89c2585033aafa6ceda07d6527e2e55853d6216a0685", func := "darning/darninglaw5.NvmLasts", spec := "nvmLasts", apart := false }
def NvmLastsSaid : Prop := nvmLastsRow.holds Try.pinned (OpenSpec.ofChange nvmLastsSpec)

/-- ITS FALSE NEIGHBOUR: 'it returns false'. Refute it at one input. -/
def nvmLastsWrong : ChangeSpec := { name := "nvmLasts", fn := fun _ => fun
  | [d1, d2] => { results := [.lit (.bool false)], args := [d1, d2] }
  | _ => none }
def NvmLastsWrongFalsely : Prop := nvmLastsRow.holds Try.pinned (OpenSpec.ofChange nvmLastsWrong)

/-- 'darninglaw5.NvmNever': WHATEVER THE INPUT: true; the input reads as it did. -/
def nvmNeverSpec : ChangeSpec := { name := "nvmNever", fn := fun _ => fun
  | [d1, d2] => { results := [.lit (.bool true)], args := [d1, d2] }
  | _ => none }
def nvmNeverRow : OpenClaim := { program := "ytomeldimnhapfaa", sum := "2d274144de637dfdbc2d89c2585033aafa6ceda07d6527e2e55853d6216a0685", func := "darning/darninglaw5.NvmNever", spec := "nvmNever", apart := false }
def NvmNeverSaid : Prop := nvmNeverRow.holds Try.pinned (OpenSpec.ofChange nvmNeverSpec)

/-- ITS FALSE NEIGHBOUR: 'it returns false'. Refute it at one input. -/
def nvmNeverWrong : ChangeSpec := { name := "nvmNever", fn := fun _ => fun
  | [d1, d2] => { results := [.lit (.bool false)], args := [d1, d2] }
  | _ => none }
def NvmNeverWrongFalsely : Prop := nvmNeverRow.holds Try.pinned (OpenSpec.ofChange nvmNeverWrong)

/-- 'darninglaw5.NvmPlays': WHATEVER THE INPUT: true; the input reads as it did. -/
def nvmPlaysSpec : ChangeSpec := { name := "nvmPlays", fn := fun _ => fun
  | [d1, d2, d3] => { results := [.lit (.bool true)], args := [d1, d2, d3] }
  | _ => none }
def nvmPlaysRow : OpenClaim := { program := "ytomeldimnhapfaa", sum := "2d274144de637dfdbc2d89c2585033aafa6ceda07d6527e2e55853d6216a0685", func := "darning/darninglaw5.NvmPlays", spec := "nvmPlays", apart := false }
def NvmPlaysSaid : Prop := nvmPlaysRow.holds Try.pinned (OpenSpec.ofChange nvmPlaysSpec)

/-- ITS FALSE NEIGHBOUR: 'it returns false'. Refute it at one input. -/
def nvmPlaysWrong : ChangeSpec := { name := "nvmPlays", fn := fun _ => fun
  | [d1, d2, d3] => { results := [.lit (.bool false)], args := [d1, d2, d3] }
  | _ => none }
def NvmPlaysWrongFalsely : Prop := nvmPlaysRow.holds Try.pinned (OpenSpec.ofChange nvmPlaysWrong)

/-- 'darninglaw5.NvmNil': WHATEVER THE INPUT: true; the input reads as it did. -/
def nvmNilSpec : ChangeSpec := { name := "nvmNil", fn := fun _ => fun
  | [d] => { results := [.lit (.bool true)], args := [d] }
  | _ => none }
def nvmNilRow : OpenClaim := { program := "ytomeldimnhapfaa", sum := "2d274144de637dfdbc2d89c2585033aafa6ceda07d6527e2e55853d6216a0685", func := "darning/darninglaw5.NvmNil", spec := "nvmNil", apart := false }
def NvmNilSaid : Prop := nvmNilRow.holds Try.pinned (OpenSpec.ofChange nvmNilSpec)

/-- ITS FALSE NEIGHBOUR: 'it returns false'. Refute it at one input. -/
def nvmNilWrong : ChangeSpec := { name := "nvmNil", fn := fun _ => fun
  | [d] => { results := [.lit (.bool false)], args := [d] }
  | _ => none }
def NvmNilWrongFalsely : Prop := nvmNilRow.holds Try.pinned (OpenSpec.ofChange nvmNilWrong)

/-- 'darninglaw5.NvmCuts': WHATEVER THE INPUT: true; the input reads as it did. -/
def nvmCutsSpec : ChangeSpec := { name := "nvmCuts", fn := fun _ => fun
  | [d1, d2, d3] => { results := [.lit (.bool true)], args := [d1, d2, d3] }
  | _ => none }
def nvmCutsRow : OpenClaim := { program := "ytomeldimnhapfaa", sum := "2d274144de637dfdbc2d89c2585033aafa6ceda07d6527e2e55853d6216a0685", func := "darning/darninglaw5.NvmCuts", spec := "nvmCuts", apart := false }
def NvmCutsSaid : Prop := nvmCutsRow.holds Try.pinned (OpenSpec.ofChange nvmCutsSpec)

/-- ITS FALSE NEIGHBOUR: 'it returns false'. Refute it at one input. -/
def nvmCutsWrong : ChangeSpec := { name := "nvmCuts", fn := fun _ => fun
  | [d1, d2, d3] => { results := [.lit (.bool false)], args := [d1, d2, d3] }
  | _ => none }
def NvmCutsWrongFalsely : Prop := nvmCutsRow.holds Try.pinned (OpenSpec.ofChange nvmCutsWrong)

/-- 'darninglaw5.NvmStays': WHATEVER THE INPUT: true; the input reads as it did. -/
def nvmStaysSpec : ChangeSpec := { name := "nvmStays", fn := fun _ => fun
  | [d1, d2, d3, d4, d5, d6] => { results := [.lit (.bool true)], args := [d1, d2, d3, d4, d5, d6] }
  | _ => none }
def nvmStaysRow : OpenClaim := { program := "ytomeldimnhapfaa", sum := "2d274144de637dfdbc2d89c2585033aafa6ceda07d6527e2e55853d6216a0685", func := "darning/darninglaw5.NvmStays", spec := "nvmStays", apart := false }
def NvmStaysSaid : Prop := nvmStaysRow.holds Try.pinned (OpenSpec.ofChange nvmStaysSpec)

/-- ITS FALSE NEIGHBOUR: 'it returns false'. Refute it at one input. -/
def nvmStaysWrong : ChangeSpec := { name := "nvmStays", fn := fun _ => fun
  | [d1, d2, d3, d4, d5, d6] => { results := [.lit (.bool false)], args := [d1, d2, d3, d4, d5, d6] }
  | _ => none }
def NvmStaysWrongFalsely : Prop := nvmStaysRow.holds Try.pinned (OpenSpec.ofChange nvmStaysWrong)

/-- 'darninglaw7.LinesKeep': WHATEVER THE INPUT: true; the input reads as it did. -/
def linesKeepSpec : ChangeSpec := { name := "linesKeep", fn := fun _ => fun
  | [d1, d2, d3, d4] => { results := [.lit (.bool true)], args := [d1, d2, d3, d4] }
  | _ => none }
def linesKeepRow : OpenClaim := { program := "ytomeldimnhapfaa", sum := "2d274144de637dfdbc2d89c2585033aafa6ceda07d6527e2e55853d6216a0685", func := "darning/darninglaw7.LinesKeep", spec := "linesKeep", apart := false }
def LinesKeepSaid : Prop := linesKeepRow.holds Try.pinned (OpenSpec.ofChange linesKeepSpec)

/-- ITS FALSE NEIGHBOUR: 'it returns false'. Refute it at one input. -/
def linesKeepWrong : ChangeSpec := { name := "linesKeep", fn := fun _ => fun
  | [d1, d2, d3, d4] => { results := [.lit (.bool false)], args := [d1, d2, d3, d4] }
  | _ => none }
def LinesKeepWrongFalsely : Prop := linesKeepRow.holds Try.pinned (OpenSpec.ofChange linesKeepWrong)

/-- 'darninglaw7.LinesNil': WHATEVER THE INPUT: true; the input reads as it did. -/
def linesNilSpec : ChangeSpec := { name := "linesNil", fn := fun _ => fun
  | [d1, d2] => { results := [.lit (.bool true)], args := [d1, d2] }
  | _ => none }
def linesNilRow : OpenClaim := { program := "ytomeldimnhapfaa", sum := "2d274144de637dfdbc2d89c2585033aafa6ceda07d6527e2e55853d6216a0685", func := "darning/darninglaw7.LinesNil", spec := "linesNil", apart := false }
def LinesNilSaid : Prop := linesNilRow.holds Try.pinned (OpenSpec.ofChange linesNilSpec)

/-- ITS FALSE NEIGHBOUR: 'it returns false'. Refute it at one input. -/
def linesNilWrong : ChangeSpec := { name := "linesNil", fn := fun _ => fun
  | [d1, d2] => { results := [.lit (.bool false)], args := [d1, d2] }
  | _ => none }
def LinesNilWrongFalsely : Prop := linesNilRow.holds Try.pinned (OpenSpec.ofChange linesNilWrong)

/-- 'darninglaw7.LinesUse': WHATEVER THE INPUT: true; the input reads as it did. -/
def linesUseSpec : ChangeSpec := { name := "linesUse", fn := fun _ => fun
  | [d1, d2, d3] => { results := [.lit (.bool true)], args := [d1, d2, d3] }
  | _ => none }
def linesUseRow : OpenClaim := { program := "ytomeldimnhapfaa", sum := "2d274144de637dfdbc2d89c2585033aafa6ceda07d6527e2e55853d6216a0685", func := "darning/darninglaw7.LinesUse", spec := "linesUse", apart := false }
def LinesUseSaid : Prop := linesUseRow.holds Try.pinned (OpenSpec.ofChange linesUseSpec)

/-- ITS FALSE NEIGHBOUR: 'it returns false'. Refute it at one input. -/
def linesUseWrong : ChangeSpec := { name := "linesUse", fn := fun _ => fun
  | [d1, d2, d3] => { results := [.lit (.bool false)], args := [d1, d2, d3] }
  | _ => none }
def LinesUseWrongFalsely : Prop := linesUseRow.holds Try.pinned (OpenSpec.ofChange linesUseWrong)

/-- 'darninglaw7.LinesDead': WHATEVER THE INPUT: true; the input reads as it did. -/
def linesDeadSpec : ChangeSpec := { name := "linesDead", fn := fun _ => fun
  | [d1, d2] => { results := [.lit (.bool true)], args := [d1, d2] }
  | _ => none }
def linesDeadRow : OpenClaim := { program := "ytomeldimnhapfaa", sum := "2d274144de637dfdbc2d89c2585033aafa6ceda07d6527e2e55853d6216a0685", func := "darning/darninglaw7.LinesDead", spec := "linesDead", apart := false }
def LinesDeadSaid : Prop := linesDeadRow.holds Try.pinned (OpenSpec.ofChange linesDeadSpec)

/-- ITS FALSE NEIGHBOUR: 'it returns false'. Refute it at one input. -/
def linesDeadWrong : ChangeSpec := { name := "linesDead", fn := fun _ => fun
  | [d1, d2] => { results := [.lit (.bool false)], args := [d1, d2] }
  | _ => none }
def LinesDeadWrongFalsely : Prop := linesDeadRow.holds Try.pinned (OpenSpec.ofChange linesDeadWrong)

/-- 'darninglaw7.LinesCut': WHATEVER THE INPUT: true; the input reads as it did. -/
def linesCutSpec : ChangeSpec := { name := "linesCut", fn := fun _ => fun
  | [d1, d2, d3, d4, d5, d6, d7] => { results := [.lit (.bool true)], args := [d1, d2, d3, d4, d5, d6, d7] }
  | _ => none }
def linesCutRow : OpenClaim := { program := "ytomeldimnhapfaa", sum := "2d274144de637dfdbc2d89c2585033aafa6ceda07d6527e2e55853d6216a0685", func := "darning/darninglaw7.LinesCut", spec := "linesCut", apart := false }
def LinesCutSaid : Prop := linesCutRow.holds Try.pinned (OpenSpec.ofChange linesCutSpec)

/-- ITS FALSE NEIGHBOUR: 'it returns false'. Refute it at one input. -/
def linesCutWrong : ChangeSpec := { name := "linesCut", fn := fun _ => fun
  | [d1, d2, d3, d4, d5, d6, d7] => { results := [.lit (.bool false)], args := [d1, d2, d3, d4, d5, d6, d7] }
  | _ => none }
def LinesCutWrongFalsely : Prop := linesCutRow.holds Try.pinned (OpenSpec.ofChange linesCutWrong)

/- THE SECOND FORM. 'bulk': how many values and letters a reading holds, each counted each time it is reached (what is shared counts as often as it is met; a slice's spare places count too). A statement '..UptoSaid' is the law's where the arguments, and the package variables that the reading takes, are together of bulk at most 1048576: NARROWER than '..Said'. Prove '..Said' where nothing that the law and all that it calls make is longer than what came in: it says more and counts as full. Else prove '..UptoSaid'. A law counts once. -/
mutual
def uptoBulk {H : Type} : DataW H → Nat
  | .lit (.string bytes) => bytes.length + 1
  | .lit _ => 1
  | .nil => 1
  | .ptr d => uptoBulk d + 1
  | .slice elems spare => uptoBulkAll elems + uptoBulkAll spare + 1
  | .agg parts => uptoBulkAll parts + 1
  | .iface _ d => uptoBulk d + 1
  | .map entries => uptoBulkEntries entries + 1
  | .held _ => 1
def uptoBulkAll {H : Type} : List (DataW H) → Nat
  | [] => 0
  | d :: r => uptoBulk d + uptoBulkAll r
def uptoBulkEntries {H : Type} : List (Lit × DataW H) → Nat
  | [] => 0
  | x :: r => uptoBulkEntry x + uptoBulkEntries r
def uptoBulkEntry {H : Type} : Lit × DataW H → Nat
  | (.string bytes, d) => bytes.length + uptoBulk d + 1
  | (_, d) => uptoBulk d + 1
 end
def uptoSmall : (H : Type) → List (DataW H) → Bool := fun _ ds => decide (uptoBulkAll ds ≤ 1048576)
def OpenSpec.upto (s : _root_.Go.ChangeSpec) : _root_.Go.OpenSpec := { _root_.Go.OpenSpec.ofChange s with cond := some uptoSmall }

/-- 'darninglaw5.NvmLasts', WHERE WHAT IT READS IS OF BULK AT MOST 1048576: true; the input reads as it did. -/
def nvmLastsUptoRow : OpenClaim := { program := "ytomeldimnhapfaa", sum := "2d274144de637dfdbc2d89c2585033aafa6ceda07d6527e2e55853d6216a0685", func := "darning/darninglaw5.NvmLasts", spec := "nvmLasts", apart := false, narrowed := true }
def NvmLastsUptoSaid : Prop := nvmLastsUptoRow.holds Try.pinned (OpenSpec.upto nvmLastsSpec)

/-- 'darninglaw5.NvmNever', WHERE WHAT IT READS IS OF BULK AT MOST 1048576: true; the input reads as it did. -/
def nvmNeverUptoRow : OpenClaim := { program := "ytomeldimnhapfaa", sum := "2d274144de637dfdbc2d89c2585033aafa6ceda07d6527e2e55853d6216a0685", func := "darning/darninglaw5.NvmNever", spec := "nvmNever", apart := false, narrowed := true }
def NvmNeverUptoSaid : Prop := nvmNeverUptoRow.holds Try.pinned (OpenSpec.upto nvmNeverSpec)

/-- 'darninglaw5.NvmPlays', WHERE WHAT IT READS IS OF BULK AT MOST 1048576: true; the input reads as it did. -/
def nvmPlaysUptoRow : OpenClaim := { program := "ytomeldimnhapfaa", sum := "2d274144de637dfdbc2d89c2585033aafa6ceda07d6527e2e55853d6216a0685", func := "darning/darninglaw5.NvmPlays", spec := "nvmPlays", apart := false, narrowed := true }
def NvmPlaysUptoSaid : Prop := nvmPlaysUptoRow.holds Try.pinned (OpenSpec.upto nvmPlaysSpec)

/-- 'darninglaw5.NvmNil', WHERE WHAT IT READS IS OF BULK AT MOST 1048576: true; the input reads as it did. -/
def nvmNilUptoRow : OpenClaim := { program := "ytomeldimnhapfaa", sum := "2d274144de637dfdbc2d89c2585033aafa6ceda07d6527e2e55853d6216a0685", func := "darning/darninglaw5.NvmNil", spec := "nvmNil", apart := false, narrowed := true }
def NvmNilUptoSaid : Prop := nvmNilUptoRow.holds Try.pinned (OpenSpec.upto nvmNilSpec)

/-- 'darninglaw5.NvmCuts', WHERE WHAT IT READS IS OF BULK AT MOST 1048576: true; the input reads as it did. -/
def nvmCutsUptoRow : OpenClaim := { program := "ytomeldimnhapfaa", sum := "2d274144de637dfdbc2d89c2585033aafa6ceda07d6527e2e55853d6216a0685", func := "darning/darninglaw5.NvmCuts", spec := "nvmCuts", apart := false, narrowed := true }
def NvmCutsUptoSaid : Prop := nvmCutsUptoRow.holds Try.pinned (OpenSpec.upto nvmCutsSpec)

/-- 'darninglaw5.NvmStays', WHERE WHAT IT READS IS OF BULK AT MOST 1048576: true; the input reads as it did. -/
def nvmStaysUptoRow : OpenClaim := { program := "ytomeldimnhapfaa", sum := "2d274144de637dfdbc2d89c2585033aafa6ceda07d6527e2e55853d6216a0685", func := "darning/darninglaw5.NvmStays", spec := "nvmStays", apart := false, narrowed := true }
def NvmStaysUptoSaid : Prop := nvmStaysUptoRow.holds Try.pinned (OpenSpec.upto nvmStaysSpec)

/-- 'darninglaw7.LinesKeep', WHERE WHAT IT READS IS OF BULK AT MOST 1048576: true; the input reads as it did. -/
def linesKeepUptoRow : OpenClaim := { program := "ytomeldimnhapfaa", sum := "2d274144de637dfdbc2d89c2585033aafa6ceda07d6527e2e55853d6216a0685", func := "darning/darninglaw7.LinesKeep", spec := "linesKeep", apart := false, narrowed := true }
def LinesKeepUptoSaid : Prop := linesKeepUptoRow.holds Try.pinned (OpenSpec.upto linesKeepSpec)

/-- 'darninglaw7.LinesNil', WHERE WHAT IT READS IS OF BULK AT MOST 1048576: true; the input reads as it did. -/
def linesNilUptoRow : OpenClaim := { program := "ytomeldimnhapfaa", sum := "2d274144de637dfdbc2d89c2585033aafa6ceda07d6527e2e55853d6216a0685", func := "darning/darninglaw7.LinesNil", spec := "linesNil", apart := false, narrowed := true }
def LinesNilUptoSaid : Prop := linesNilUptoRow.holds Try.pinned (OpenSpec.upto linesNilSpec)

/-- 'darninglaw7.LinesUse', WHERE WHAT IT READS IS OF BULK AT MOST 1048576: true; the input reads as it did. -/
def linesUseUptoRow : OpenClaim := { program := "ytomeldimnhapfaa", sum := "2d274144de637dfdbc2d89c2585033aafa6ceda07d6527e2e55853d6216a0685", func := "darning/darninglaw7.LinesUse", spec := "linesUse", apart := false, narrowed := true }
def LinesUseUptoSaid : Prop := linesUseUptoRow.holds Try.pinned (OpenSpec.upto linesUseSpec)

/-- 'darninglaw7.LinesDead', WHERE WHAT IT READS IS OF BULK AT MOST 1048576: true; the input reads as it did. -/
def linesDeadUptoRow : OpenClaim := { program := "ytomeldimnhapfaa", sum := "2d274144de637dfdbc2d89c2585033aafa6ceda07d6527e2e55853d6216a0685", func := "darning/darninglaw7.LinesDead", spec := "linesDead", apart := false, narrowed := true }
def LinesDeadUptoSaid : Prop := linesDeadUptoRow.holds Try.pinned (OpenSpec.upto linesDeadSpec)

/-- 'darninglaw7.LinesCut', WHERE WHAT IT READS IS OF BULK AT MOST 1048576: true; the input reads as it did. -/
def linesCutUptoRow : OpenClaim := { program := "ytomeldimnhapfaa", sum := "2d274144de637dfdbc2d89c2585033aafa6ceda07d6527e2e55853d6216a0685", func := "darning/darninglaw7.LinesCut", spec := "linesCut", apart := false, narrowed := true }
def LinesCutUptoSaid : Prop := linesCutUptoRow.holds Try.pinned (OpenSpec.upto linesCutSpec)

end Rows
end Go.Proofs.Ytomeldimnhapfaa
