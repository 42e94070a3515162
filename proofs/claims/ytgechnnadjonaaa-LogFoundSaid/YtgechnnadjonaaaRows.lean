/-
  No cell of these rows narrows 'for every input' (looked for: loops, veiled, ifaces, maps, wideKeys, modest, calm, conditions, laid).
  DERIVED. THE GIVEN ROWS OF THIS SEAT. 12 by the template 'for every input the law returns true; each argument reads behind the call as it read before'; 0 by the template 'total and deterministic' (their statements: YtgechnnadjonaaaTotals.lean).
  GIVEN WITH THE SEED: the statements are not yours to turn. If you find one false, say at which input.
  Laid BY PROGRAM, IN A SANDBOX (cutbox-rows.mjs): the forced cells as the released guide's own fill.sh prints them over the translation 39ee50a766adddb2… (all of the seat's roots in one cut). By AI agents, Wed Nov 11 2026. No macro, syntax, notation, axiom, sorry.
-/
import Derived.Test.YtgechnnadjonaaaChecked
import GoSem.Claim
import GoSem.ClaimJoined
import GoSem.ClaimMapViews
import Derived.JoinedTies
import Derived.KernelRfl
namespace Go.Proofs.Ytgechnnadjonaaa
/- THE CELL 'sum', in the pinned program and in every row, IS THE sha256 OF THE DUMP (.gsa) THAT YtgechnnadjonaaaProg.lean LOADS. Nothing in Lean hashes anything: it is a label: what it is worth is what the hold of that sum in a sandbox is worth. -/
noncomputable def Try.pinned : Pinned := { name := "ytgechnnadjonaaa", sum := "39ee50a766adddb28e92df6583901e0fb566bf91a5b7251a10ddc21d4e4a7e37", checked := Try.checked }
namespace Rows
def none {H : Type} : Left H := { results := [], args := [] }

/-- 'darninglaw9.TurnFound': WHATEVER THE INPUT: true; the input reads as it did. -/
def turnFoundSpec : ChangeSpec := { name := "turnFound", fn := fun _ => fun
  | [d1, d2, d3, d4] => { results := [.lit (.bool true)], args := [d1, d2, d3, d4] }
  | _ => none }
def turnFoundRow : OpenClaim := { program := "ytgechnnadjonaaa", sum := "39ee50a766adddb28e92df6583901e0fb566bf91a5b7251a10ddc21d4e4a7e37", func := "darning/darninglaw9.TurnFound", spec := "turnFound", apart := false }
def TurnFoundSaid : Prop := turnFoundRow.holds Try.pinned (OpenSpec.ofChange turnFoundSpec)

/-- ITS FALSE NEIGHBOUR: 'it returns false'. Refute it at one input. -/
def turnFoundWrong : ChangeSpec := { name := "turnFound", fn := fun _ => fun
  | [d1, d2, d3, d4] => { results := [.lit (.bool false)], args := [d1, d2, d3, d4] }
  | _ => none }
def TurnFoundWrongFalsely : Prop := turnFoundRow.holds Try.pinned (OpenSpec.ofChange turnFoundWrong)

/-- 'darninglaw9.TurnFrom': WHATEVER THE INPUT: true; the input reads as it did. -/
def turnFromSpec : ChangeSpec := { name := "turnFrom", fn := fun _ => fun
  | [d1, d2, d3, d4] => { results := [.lit (.bool true)], args := [d1, d2, d3, d4] }
  | _ => none }
def turnFromRow : OpenClaim := { program := "ytgechnnadjonaaa", sum := "39ee50a766adddb28e92df6583901e0fb566bf91a5b7251a10ddc21d4e4a7e37", func := "darning/darninglaw9.TurnFrom", spec := "turnFrom", apart := false }
def TurnFromSaid : Prop := turnFromRow.holds Try.pinned (OpenSpec.ofChange turnFromSpec)

/-- ITS FALSE NEIGHBOUR: 'it returns false'. Refute it at one input. -/
def turnFromWrong : ChangeSpec := { name := "turnFrom", fn := fun _ => fun
  | [d1, d2, d3, d4] => { results := [.lit (.bool false)], args := [d1, d2, d3, d4] }
  | _ => none }
def TurnFromWrongFalsely : Prop := turnFromRow.holds Try.pinned (OpenSpec.ofChange turnFromWrong)

/-- 'darninglaw9.TurnWears': WHATEVER THE INPUT: true; the input reads as it did. -/
def turnWearsSpec : ChangeSpec := { name := "turnWears", fn := fun _ => fun
  | [d1, d2, d3] => { results := [.lit (.bool true)], args := [d1, d2, d3] }
  | _ => none }
def turnWearsRow : OpenClaim := { program := "ytgechnnadjonaaa", sum := "39ee50a766adddb28e92df6583901e0fb566bf91a5b7251a10ddc21d4e4a7e37", func := "darning/darninglaw9.TurnWears", spec := "turnWears", apart := false }
def TurnWearsSaid : Prop := turnWearsRow.holds Try.pinned (OpenSpec.ofChange turnWearsSpec)

/-- ITS FALSE NEIGHBOUR: 'it returns false'. Refute it at one input. -/
def turnWearsWrong : ChangeSpec := { name := "turnWears", fn := fun _ => fun
  | [d1, d2, d3] => { results := [.lit (.bool false)], args := [d1, d2, d3] }
  | _ => none }
def TurnWearsWrongFalsely : Prop := turnWearsRow.holds Try.pinned (OpenSpec.ofChange turnWearsWrong)

/-- 'darninglaw9.TurnKeeps': WHATEVER THE INPUT: true; the input reads as it did. -/
def turnKeepsSpec : ChangeSpec := { name := "turnKeeps", fn := fun _ => fun
  | [d1, d2, d3, d4, d5] => { results := [.lit (.bool true)], args := [d1, d2, d3, d4, d5] }
  | _ => none }
def turnKeepsRow : OpenClaim := { program := "ytgechnnadjonaaa", sum := "39ee50a766adddb28e92df6583901e0fb566bf91a5b7251a10ddc21d4e4a7e37", func := "darning/darninglaw9.TurnKeeps", spec := "turnKeeps", apart := false }
def TurnKeepsSaid : Prop := turnKeepsRow.holds Try.pinned (OpenSpec.ofChange turnKeepsSpec)

/-- ITS FALSE NEIGHBOUR: 'it returns false'. Refute it at one input. -/
def turnKeepsWrong : ChangeSpec := { name := "turnKeeps", fn := fun _ => fun
  | [d1, d2, d3, d4, d5] => { results := [.lit (.bool false)], args := [d1, d2, d3, d4, d5] }
  | _ => none }
def TurnKeepsWrongFalsely : Prop := turnKeepsRow.holds Try.pinned (OpenSpec.ofChange turnKeepsWrong)

/-- 'darninglaw9.TurnNil': WHATEVER THE INPUT: true; the input reads as it did. -/
def turnNilSpec : ChangeSpec := { name := "turnNil", fn := fun _ => fun
  | [d1, d2] => { results := [.lit (.bool true)], args := [d1, d2] }
  | _ => none }
def turnNilRow : OpenClaim := { program := "ytgechnnadjonaaa", sum := "39ee50a766adddb28e92df6583901e0fb566bf91a5b7251a10ddc21d4e4a7e37", func := "darning/darninglaw9.TurnNil", spec := "turnNil", apart := false }
def TurnNilSaid : Prop := turnNilRow.holds Try.pinned (OpenSpec.ofChange turnNilSpec)

/-- ITS FALSE NEIGHBOUR: 'it returns false'. Refute it at one input. -/
def turnNilWrong : ChangeSpec := { name := "turnNil", fn := fun _ => fun
  | [d1, d2] => { results := [.lit (.bool false)], args := [d1, d2] }
  | _ => none }
def TurnNilWrongFalsely : Prop := turnNilRow.holds Try.pinned (OpenSpec.ofChange turnNilWrong)

/-- 'darninglaw9.TurnCut': WHATEVER THE INPUT: true; the input reads as it did. -/
def turnCutSpec : ChangeSpec := { name := "turnCut", fn := fun _ => fun
  | [d1, d2, d3, d4, d5, d6, d7, d8] => { results := [.lit (.bool true)], args := [d1, d2, d3, d4, d5, d6, d7, d8] }
  | _ => none }
def turnCutRow : OpenClaim := { program := "ytgechnnadjonaaa", sum := "39ee50a766adddb28e92df6583901e0fb566bf91a5b7251a10ddc21d4e4a7e37", func := "darning/darninglaw9.TurnCut", spec := "turnCut", apart := false }
def TurnCutSaid : Prop := turnCutRow.holds Try.pinned (OpenSpec.ofChange turnCutSpec)

/-- ITS FALSE NEIGHBOUR: 'it returns false'. Refute it at one input. -/
def turnCutWrong : ChangeSpec := { name := "turnCut", fn := fun _ => fun
  | [d1, d2, d3, d4, d5, d6, d7, d8] => { results := [.lit (.bool false)], args := [d1, d2, d3, d4, d5, d6, d7, d8] }
  | _ => none }
def TurnCutWrongFalsely : Prop := turnCutRow.holds Try.pinned (OpenSpec.ofChange turnCutWrong)

/-- 'darninglaw12.LogKeeps': WHATEVER THE INPUT: true; the input reads as it did. -/
def logKeepsSpec : ChangeSpec := { name := "logKeeps", fn := fun _ => fun
  | [d1, d2, d3, d4, d5] => { results := [.lit (.bool true)], args := [d1, d2, d3, d4, d5] }
  | _ => none }
def logKeepsRow : OpenClaim := { program := "ytgechnnadjonaaa", sum := "39ee50a766adddb28e92df6583901e0fb566bf91a5b7251a10ddc21d4e4a7e37", func := "darning/darninglaw12.LogKeeps", spec := "logKeeps", apart := false }
def LogKeepsSaid : Prop := logKeepsRow.holds Try.pinned (OpenSpec.ofChange logKeepsSpec)

/-- ITS FALSE NEIGHBOUR: 'it returns false'. Refute it at one input. -/
def logKeepsWrong : ChangeSpec := { name := "logKeeps", fn := fun _ => fun
  | [d1, d2, d3, d4, d5] => { results := [.lit (.bool false)], args := [d1, d2, d3, d4, d5] }
  | _ => none }
def LogKeepsWrongFalsely : Prop := logKeepsRow.holds Try.pinned (OpenSpec.ofChange logKeepsWrong)

/-- 'darninglaw12.LogMost': WHATEVER THE INPUT: true; the input reads as it did. -/
def logMostSpec : ChangeSpec := { name := "logMost", fn := fun _ => fun
  | [d1, d2] => { results := [.lit (.bool true)], args := [d1, d2] }
  | _ => none }
def logMostRow : OpenClaim := { program := "ytgechnnadjonaaa", sum := "39ee50a766adddb28e92df6583901e0fb566bf91a5b7251a10ddc21d4e4a7e37", func := "darning/darninglaw12.LogMost", spec := "logMost", apart := false }
def LogMostSaid : Prop := logMostRow.holds Try.pinned (OpenSpec.ofChange logMostSpec)

/-- ITS FALSE NEIGHBOUR: 'it returns false'. Refute it at one input. -/
def logMostWrong : ChangeSpec := { name := "logMost", fn := fun _ => fun
  | [d1, d2] => { results := [.lit (.bool false)], args := [d1, d2] }
  | _ => none }
def LogMostWrongFalsely : Prop := logMostRow.holds Try.pinned (OpenSpec.ofChange logMostWrong)

/-- 'darninglaw12.LogNil': WHATEVER THE INPUT: true; the input reads as it did. -/
def logNilSpec : ChangeSpec := { name := "logNil", fn := fun _ => fun
  | [d1, d2] => { results := [.lit (.bool true)], args := [d1, d2] }
  | _ => none }
def logNilRow : OpenClaim := { program := "ytgechnnadjonaaa", sum := "39ee50a766adddb28e92df6583901e0fb566bf91a5b7251a10ddc21d4e4a7e37", func := "darning/darninglaw12.LogNil", spec := "logNil", apart := false }
def LogNilSaid : Prop := logNilRow.holds Try.pinned (OpenSpec.ofChange logNilSpec)

/-- ITS FALSE NEIGHBOUR: 'it returns false'. Refute it at one input. -/
def logNilWrong : ChangeSpec := { name := "logNil", fn := fun _ => fun
  | [d1, d2] => { results := [.lit (.bool false)], args := [d1, d2] }
  | _ => none }
def LogNilWrongFalsely : Prop := logNilRow.holds Try.pinned (OpenSpec.ofChange logNilWrong)

/-- 'darninglaw12.LogOne': WHATEVER THE INPUT: true; the input reads as it did. -/
def logOneSpec : ChangeSpec := { name := "logOne", fn := fun _ => fun
  | [d1, d2, d3, d4] => { results := [.lit (.bool true)], args := [d1, d2, d3, d4] }
  | _ => none }
def logOneRow : OpenClaim := { program := "ytgechnnadjonaaa", sum := "39ee50a766adddb28e92df6583901e0fb566bf91a5b7251a10ddc21d4e4a7e37", func := "darning/darninglaw12.LogOne", spec := "logOne", apart := false }
def LogOneSaid : Prop := logOneRow.holds Try.pinned (OpenSpec.ofChange logOneSpec)

/-- ITS FALSE NEIGHBOUR: 'it returns false'. Refute it at one input. -/
def logOneWrong : ChangeSpec := { name := "logOne", fn := fun _ => fun
  | [d1, d2, d3, d4] => { results := [.lit (.bool false)], args := [d1, d2, d3, d4] }
  | _ => none }
def LogOneWrongFalsely : Prop := logOneRow.holds Try.pinned (OpenSpec.ofChange logOneWrong)

/-- 'darninglaw12.LogRaw': WHATEVER THE INPUT: true; the input reads as it did. -/
def logRawSpec : ChangeSpec := { name := "logRaw", fn := fun _ => fun
  | [d1, d2, d3] => { results := [.lit (.bool true)], args := [d1, d2, d3] }
  | _ => none }
def logRawRow : OpenClaim := { program := "ytgechnnadjonaaa", sum := "39ee50a766adddb28e92df6583901e0fb566bf91a5b7251a10ddc21d4e4a7e37", func := "darning/darninglaw12.LogRaw", spec := "logRaw", apart := false }
def LogRawSaid : Prop := logRawRow.holds Try.pinned (OpenSpec.ofChange logRawSpec)

/-- ITS FALSE NEIGHBOUR: 'it returns false'. Refute it at one input. -/
def logRawWrong : ChangeSpec := { name := "logRaw", fn := fun _ => fun
  | [d1, d2, d3] => { results := [.lit (.bool false)], args := [d1, d2, d3] }
  | _ => none }
def LogRawWrongFalsely : Prop := logRawRow.holds Try.pinned (OpenSpec.ofChange logRawWrong)

/-- 'darninglaw12.LogFound': WHATEVER THE INPUT: true; the input reads as it did. -/
def logFoundSpec : ChangeSpec := { name := "logFound", fn := fun _ => fun
  | [d1, d2, d3, d4] => { results := [.lit (.bool true)], args := [d1, d2, d3, d4] }
  | _ => none }
def logFoundRow : OpenClaim := { program := "ytgechnnadjonaaa", sum := "39ee50a766adddb28e92df6583901e0fb566bf91a5b7251a10ddc21d4e4a7e37", func := "darning/darninglaw12.LogFound", spec := "logFound", apart := false }
def LogFoundSaid : Prop := logFoundRow.holds Try.pinned (OpenSpec.ofChange logFoundSpec)

/-- ITS FALSE NEIGHBOUR: 'it returns false'. Refute it at one input. -/
def logFoundWrong : ChangeSpec := { name := "logFound", fn := fun _ => fun
  | [d1, d2, d3, d4] => { results := [.lit (.bool false)], args := [d1, d2, d3, d4] }
  | _ => none }
def LogFoundWrongFalsely : Prop := logFoundRow.holds Try.pinned (OpenSpec.ofChange logFoundWrong)

/- THE SECOND FORM. 'bulk': how many values and letters a reading holds, each counted each time it is reached (what is shared counts as often as it is met; a slice's spare places count too). A statement '..UptoSaid' is the law's where the arguments, and the package variables that the reading takes, are together of bulk at most 1048576: NARROWER than '..Said'. Prove '..Said' where nothing that the law and all that it calls make is longer than what came in: it says more and counts as full. Else prove '..UptoSaid'. A law counts once. -/
mutual
def uptoBulk {H : Type} : DataW H → Nat
  | .lit (.string bytes) => bytes.length + 1
  | .lit _ => 1
  | .nil => 1
  | .ptr d => uptoBulk d + 1
  | .slice elems spare => uptoBulkAll elems + uptoBulkAll spare + 1
  | .agg parts => uptoBulkAll parts + 1
  | .iface _ d => uptoBulk d + 1
  | .map entries => uptoBulkEntries entries + 1
  | .held _ => 1
def uptoBulkAll {H : Type} : List (DataW H) → Nat
  | [] => 0
  | d :: r => uptoBulk d + uptoBulkAll r
def uptoBulkEntries {H : Type} : List (Lit × DataW H) → Nat
  | [] => 0
  | x :: r => uptoBulkEntry x + uptoBulkEntries r
def uptoBulkEntry {H : Type} : Lit × DataW H → Nat
  | (.string bytes, d) => bytes.length + uptoBulk d + 1
  | (_, d) => uptoBulk d + 1
 end
def uptoSmall : (H : Type) → List (DataW H) → Bool := fun _ ds => decide (uptoBulkAll ds ≤ 1048576)
def OpenSpec.upto (s : _root_.Go.ChangeSpec) : _root_.Go.OpenSpec := { _root_.Go.OpenSpec.ofChange s with cond := some uptoSmall }

/-- 'darninglaw9.TurnFound', WHERE WHAT IT READS IS OF BULK AT MOST 1048576: true; the input reads as it did. -/
def turnFoundUptoRow : OpenClaim := { program := "ytgechnnadjonaaa", sum := "39ee50a766adddb28e92df6583901e0fb566bf91a5b7251a10ddc21d4e4a7e37", func := "darning/darninglaw9.TurnFound", spec := "turnFound", apart := false, narrowed := true }
def TurnFoundUptoSaid : Prop := turnFoundUptoRow.holds Try.pinned (OpenSpec.upto turnFoundSpec)

/-- 'darninglaw9.TurnFrom', WHERE WHAT IT READS IS OF BULK AT MOST 1048576: true; the input reads as it did. -/
def turnFromUptoRow : OpenClaim := { program := "ytgechnnadjonaaa", sum := "39ee50a766adddb28e92df6583901e0fb566bf91a5b7251a10ddc21d4e4a7e37", func := "darning/darninglaw9.TurnFrom", spec := "turnFrom", apart := false, narrowed := true }
def TurnFromUptoSaid : Prop := turnFromUptoRow.holds Try.pinned (OpenSpec.upto turnFromSpec)

/-- 'darninglaw9.TurnWears', WHERE WHAT IT READS IS OF BULK AT MOST 1048576: true; the input reads as it did. -/
def turnWearsUptoRow : OpenClaim := { program := "ytgechnnadjonaaa", sum := "39ee50a766adddb28e92df6583901e0fb566bf91a5b7251a10ddc21d4e4a7e37", func := "darning/darninglaw9.TurnWears", spec := "turnWears", apart := false, narrowed := true }
def TurnWearsUptoSaid : Prop := turnWearsUptoRow.holds Try.pinned (OpenSpec.upto turnWearsSpec)

/-- 'darninglaw9.TurnKeeps', WHERE WHAT IT READS IS OF BULK AT MOST 1048576: true; the input reads as it did. -/
def turnKeepsUptoRow : OpenClaim := { program := "ytgechnnadjonaaa", sum := "39ee50a766adddb28e92df6583901e0fb566bf91a5b7251a10ddc21d4e4a7e37", func := "darning/darninglaw9.TurnKeeps", spec := "turnKeeps", apart := false, narrowed := true }
def TurnKeepsUptoSaid : Prop := turnKeepsUptoRow.holds Try.pinned (OpenSpec.upto turnKeepsSpec)

/-- 'darninglaw9.TurnNil', WHERE WHAT IT READS IS OF BULK AT MOST 1048576: true; the input reads as it did. -/
def turnNilUptoRow : OpenClaim := { program := "ytgechnnadjonaaa", sum := "39ee50a766adddb28e92df6583901e0fb566bf91a5b7251a10ddc21d4e4a7e37", func := "darning/darninglaw9.TurnNil", spec := "turnNil", apart := false, narrowed := true }
def TurnNilUptoSaid : Prop := turnNilUptoRow.holds Try.pinned (OpenSpec.upto turnNilSpec)

/-- 'darninglaw9.TurnCut', WHERE WHAT IT READS IS OF BULK AT MOST 1048576: true; the input reads as it did. -/
def turnCutUptoRow : OpenClaim := { program := "ytgechnnadjonaaa", sum := "39ee50a766adddb28e92df6583901e0fb566bf91a5b7251a10ddc21d4e4a7e37", func := "darning/darninglaw9.TurnCut", spec := "turnCut", apart := false, narrowed := true }
def TurnCutUptoSaid : Prop := turnCutUptoRow.holds Try.pinned (OpenSpec.upto turnCutSpec)

/-- 'darninglaw12.LogKeeps', WHERE WHAT IT READS IS OF BULK AT MOST 1048576: true; the input reads as it did. -/
def logKeepsUptoRow : OpenClaim := { program := "ytgechnnadjonaaa", sum := "39ee50a766adddb28e92df6583901e0fb566bf91a5b7251a10ddc21d4e4a7e37", func := "darning/darninglaw12.LogKeeps", spec := "logKeeps", apart := false, narrowed := true }
def LogKeepsUptoSaid : Prop := logKeepsUptoRow.holds Try.pinned (OpenSpec.upto logKeepsSpec)

/-- 'darninglaw12.LogMost', WHERE WHAT IT READS IS OF BULK AT MOST 1048576: true; the input reads as it did. -/
def logMostUptoRow : OpenClaim := { program := "ytgechnnadjonaaa", sum := "39ee50a766adddb28e92df6583901e0fb566bf91a5b7251a10ddc21d4e4a7e37", func := "darning/darninglaw12.LogMost", spec := "logMost", apart := false, narrowed := true }
def LogMostUptoSaid : Prop := logMostUptoRow.holds Try.pinned (OpenSpec.upto logMostSpec)

/-- 'darninglaw12.LogNil', WHERE WHAT IT READS IS OF BULK AT MOST 1048576: true; the input reads as it did. -/
def logNilUptoRow : OpenClaim := { program := "ytgechnnadjonaaa", sum := "39ee50a766adddb28e92df6583901e0fb566bf91a5b7251a10ddc21d4e4a7e37", func := "darning/darninglaw12.LogNil", spec := "logNil", apart := false, narrowed := true }
def LogNilUptoSaid : Prop := logNilUptoRow.holds Try.pinned (OpenSpec.upto logNilSpec)

/-- 'darninglaw12.LogOne', WHERE WHAT IT READS IS OF BULK AT MOST 1048576: true; the input reads as it did. -/
def logOneUptoRow : OpenClaim := { program := "ytgechnnadjonaaa", sum := "39ee50a766adddb28e92df6583901e0fb566bf91a5b7251a10ddc21d4e4a7e37", func := "darning/darninglaw12.LogOne", spec := "logOne", apart := false, narrowed := true }
def LogOneUptoSaid : Prop := logOneUptoRow.holds Try.pinned (OpenSpec.upto logOneSpec)

/-- 'darninglaw12.LogRaw', WHERE WHAT IT READS IS OF BULK AT MOST 1048576: true; the input reads as it did. -/
def logRawUptoRow : OpenClaim := { program := "ytgechnnadjonaaa", sum := "39ee50a766adddb28e92df6583901e0fb566bf91a5b7251a10ddc21d4e4a7e37", func := "darning/darninglaw12.LogRaw", spec := "logRaw", apart := false, narrowed := true }
def LogRawUptoSaid : Prop := logRawUptoRow.holds Try.pinned (OpenSpec.upto logRawSpec)

/-- 'darninglaw12.LogFound', WHERE WHAT IT READS IS OF BULK AT MOST 1048576: true; the input reads as it did. -/
def logFoundUptoRow : OpenClaim := { program := "ytgechnnadjonaaa", sum := "39ee50a766adddb28e92df6583901e0fb566bf91a5b7251a10ddc21d4e4a7e37", func := "darning/darninglaw12.LogFound", spec := "logFound", apart := false, narrowed := true }
def LogFoundUptoSaid : Prop := logFoundUptoRow.holds Try.pinned (OpenSpec.upto logFoundSpec)

end Rows
end Go.Proofs.Ytgechnnadjonaaa
