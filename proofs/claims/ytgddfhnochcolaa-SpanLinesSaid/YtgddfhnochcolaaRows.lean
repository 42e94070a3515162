/-
  No cell of these rows narrows 'for every input' (looked for: loops, veiled, ifaces, maps, wideKeys, modest, calm, conditions, laid).
  DERIVED. THE GIVEN ROWS OF THIS SEAT. 11 by the template 'for every input the law returns true; each argument reads behind the call as it read before'; 0 by the template 'total and deterministic' (their statements: YtgddfhnochcolaaTotals.lean).
  GIVEN WITH THE SEED: the statements are not yours to turn. If you find one false, say at which input.
  Laid BY PROGRAM, IN A SANDBOX (cutbox-rows.mjs): the forced cells as the released guide's own fill.sh prints them over the translation 856461ecc9c96cb1… (all of the seat's roots in one cut). By AI agents, Wed Nov 11 2026. No macro, syntax, notation, axiom, sorry.
-/
import Derived.Test.YtgddfhnochcolaaChecked
import GoSem.Claim
import GoSem.ClaimJoined
import GoSem.ClaimMapViews
import Derived.JoinedTies
import Derived.KernelRfl
namespace Go.Proofs.Ytgddfhnochcolaa
/- THE CELL 'sum', in the pinned program and in every row, IS THE sha256 OF THE DUMP (.gsa) THAT YtgddfhnochcolaaProg.lean LOADS. Nothing in Lean hashes anything: it is a label: what it is worth is what the hold of that sum in a sandbox is worth. -/
noncomputable def Try.pinned : Pinned := { name := "ytgddfhnochcolaa", sum := "856461ecc9c96cb1acedab0dd7b7676beb6d9e36a64e5b5593a6841474d8a462", checked := Try.checked }
namespace Rows
def none {H : Type} : Left H := { results := [], args := [] }

/-- 'darninglaw20.ModelRoots': WHATEVER THE INPUT: true; the input reads as it did. -/
def modelRootsSpec : ChangeSpec := { name := "modelRoots", fn := fun _ => fun
  | [d1, d2, d3] => { results := [.lit (.bool true)], args := [d1, d2, d3] }
  | _ => none }
def modelRootsRow : OpenClaim := { program := "ytgddfhnochcolaa", sum := "856461ecc9c96cb1acedab0dd7b7676beb6d9e36a64e5b5593a6841474d8a462", func := "darning/darninglaw20.ModelRoots", spec := "modelRoots", inPlace := ["slices.overlaps[darning/model.extent]"], unfollowed := true, recurses := true, apart := false }
def ModelRootsSaid : Prop := modelRootsRow.holds Try.pinned (OpenSpec.ofChange modelRootsSpec)

/-- ITS FALSE NEIGHBOUR: 'it returns false'. Refute it at one input. -/
def modelRootsWrong : ChangeSpec := { name := "modelRoots", fn := fun _ => fun
  | [d1, d2, d3] => { results := [.lit (.bool false)], args := [d1, d2, d3] }
  | _ => none }
def ModelRootsWrongFalsely : Prop := modelRootsRow.holds Try.pinned (OpenSpec.ofChange modelRootsWrong)

/-- 'darninglaw20.ModelBytes': WHATEVER THE INPUT: true; the input reads as it did. -/
def modelBytesSpec : ChangeSpec := { name := "modelBytes", fn := fun _ => fun
  | [d1, d2, d3] => { results := [.lit (.bool true)], args := [d1, d2, d3] }
  | _ => none }
def modelBytesRow : OpenClaim := { program := "ytgddfhnochcolaa", sum := "856461ecc9c96cb1acedab0dd7b7676beb6d9e36a64e5b5593a6841474d8a462", func := "darning/darninglaw20.ModelBytes", spec := "modelBytes", inPlace := ["slices.overlaps[darning/model.extent]"], unfollowed := true, recurses := true, apart := false }
def ModelBytesSaid : Prop := modelBytesRow.holds Try.pinned (OpenSpec.ofChange modelBytesSpec)

/-- ITS FALSE NEIGHBOUR: 'it returns false'. Refute it at one input. -/
def modelBytesWrong : ChangeSpec := { name := "modelBytes", fn := fun _ => fun
  | [d1, d2, d3] => { results := [.lit (.bool false)], args := [d1, d2, d3] }
  | _ => none }
def ModelBytesWrongFalsely : Prop := modelBytesRow.holds Try.pinned (OpenSpec.ofChange modelBytesWrong)

/-- 'darninglaw20.ModelPlays': WHATEVER THE INPUT: true; the input reads as it did. -/
def modelPlaysSpec : ChangeSpec := { name := "modelPlays", fn := fun _ => fun
  | [d1, d2, d3] => { results := [.lit (.bool true)], args := [d1, d2, d3] }
  | _ => none }
def modelPlaysRow : OpenClaim := { program := "ytgddfhnochcolaa", sum := "856461ecc9c96cb1acedab0dd7b7676beb6d9e36a64e5b5593a6841474d8a462", func := "darning/darninglaw20.ModelPlays", spec := "modelPlays", inPlace := ["slices.overlaps[darning/model.extent]"], unfollowed := true, recurses := true, apart := false }
def ModelPlaysSaid : Prop := modelPlaysRow.holds Try.pinned (OpenSpec.ofChange modelPlaysSpec)

/-- ITS FALSE NEIGHBOUR: 'it returns false'. Refute it at one input. -/
def modelPlaysWrong : ChangeSpec := { name := "modelPlays", fn := fun _ => fun
  | [d1, d2, d3] => { results := [.lit (.bool false)], args := [d1, d2, d3] }
  | _ => none }
def ModelPlaysWrongFalsely : Prop := modelPlaysRow.holds Try.pinned (OpenSpec.ofChange modelPlaysWrong)

/-- 'darninglaw20.ModelNil': WHATEVER THE INPUT: true; the input reads as it did. -/
def modelNilSpec : ChangeSpec := { name := "modelNil", fn := fun _ => fun
  | [d] => { results := [.lit (.bool true)], args := [d] }
  | _ => none }
def modelNilRow : OpenClaim := { program := "ytgddfhnochcolaa", sum := "856461ecc9c96cb1acedab0dd7b7676beb6d9e36a64e5b5593a6841474d8a462", func := "darning/darninglaw20.ModelNil", spec := "modelNil", inPlace := ["slices.overlaps[darning/model.extent]"], unfollowed := true, recurses := true, apart := false }
def ModelNilSaid : Prop := modelNilRow.holds Try.pinned (OpenSpec.ofChange modelNilSpec)

/-- ITS FALSE NEIGHBOUR: 'it returns false'. Refute it at one input. -/
def modelNilWrong : ChangeSpec := { name := "modelNil", fn := fun _ => fun
  | [d] => { results := [.lit (.bool false)], args := [d] }
  | _ => none }
def ModelNilWrongFalsely : Prop := modelNilRow.holds Try.pinned (OpenSpec.ofChange modelNilWrong)

/-- 'darninglaw20.ModelFits': WHATEVER THE INPUT: true; the input reads as it did. -/
def modelFitsSpec : ChangeSpec := { name := "modelFits", fn := fun _ => fun
  | [d1, d2, d3, d4, d5] => { results := [.lit (.bool true)], args := [d1, d2, d3, d4, d5] }
  | _ => none }
def modelFitsRow : OpenClaim := { program := "ytgddfhnochcolaa", sum := "856461ecc9c96cb1acedab0dd7b7676beb6d9e36a64e5b5593a6841474d8a462", func := "darning/darninglaw20.ModelFits", spec := "modelFits", inPlace := ["slices.overlaps[darning/model.extent]"], unfollowed := true, recurses := true, apart := false }
def ModelFitsSaid : Prop := modelFitsRow.holds Try.pinned (OpenSpec.ofChange modelFitsSpec)

/-- ITS FALSE NEIGHBOUR: 'it returns false'. Refute it at one input. -/
def modelFitsWrong : ChangeSpec := { name := "modelFits", fn := fun _ => fun
  | [d1, d2, d3, d4, d5] => { results := [.lit (.bool false)], args := [d1, d2, d3, d4, d5] }
  | _ => none }
def ModelFitsWrongFalsely : Prop := modelFitsRow.holds Try.pinned (OpenSpec.ofChange modelFitsWrong)

/-- 'darninglaw25.JudgeSees': WHATEVER THE INPUT: true; the input reads as it did. -/
def judgeSeesSpec : ChangeSpec := { name := "judgeSees", fn := fun _ => fun
  | [d1, d2] => { results := [.lit (.bool true)], args := [d1, d2] }
  | _ => none }
def judgeSeesRow : OpenClaim := { program := "ytgddfhnochcolaa", sum := "856461ecc9c96cb1acedab0dd7b7676beb6d9e36a64e5b5593a6841474d8a462", func := "darning/darninglaw25.JudgeSees", spec := "judgeSees", inPlace := ["slices.overlaps[darning/model.extent]"], unfollowed := true, recurses := true, apart := false }
def JudgeSeesSaid : Prop := judgeSeesRow.holds Try.pinned (OpenSpec.ofChange judgeSeesSpec)

/-- ITS FALSE NEIGHBOUR: 'it returns false'. Refute it at one input. -/
def judgeSeesWrong : ChangeSpec := { name := "judgeSees", fn := fun _ => fun
  | [d1, d2] => { results := [.lit (.bool false)], args := [d1, d2] }
  | _ => none }
def JudgeSeesWrongFalsely : Prop := judgeSeesRow.holds Try.pinned (OpenSpec.ofChange judgeSeesWrong)

/-- 'darninglaw25.JudgeNil': WHATEVER THE INPUT: true; the input reads as it did. -/
def judgeNilSpec : ChangeSpec := { name := "judgeNil", fn := fun _ => fun
  | [d] => { results := [.lit (.bool true)], args := [d] }
  | _ => none }
def judgeNilRow : OpenClaim := { program := "ytgddfhnochcolaa", sum := "856461ecc9c96cb1acedab0dd7b7676beb6d9e36a64e5b5593a6841474d8a462", func := "darning/darninglaw25.JudgeNil", spec := "judgeNil", inPlace := ["slices.overlaps[darning/model.extent]"], unfollowed := true, recurses := true, apart := false }
def JudgeNilSaid : Prop := judgeNilRow.holds Try.pinned (OpenSpec.ofChange judgeNilSpec)

/-- ITS FALSE NEIGHBOUR: 'it returns false'. Refute it at one input. -/
def judgeNilWrong : ChangeSpec := { name := "judgeNil", fn := fun _ => fun
  | [d] => { results := [.lit (.bool false)], args := [d] }
  | _ => none }
def JudgeNilWrongFalsely : Prop := judgeNilRow.holds Try.pinned (OpenSpec.ofChange judgeNilWrong)

/-- 'darninglaw25.JudgeLies': WHATEVER THE INPUT: true; the input reads as it did. -/
def judgeLiesSpec : ChangeSpec := { name := "judgeLies", fn := fun _ => fun
  | [d1, d2, d3] => { results := [.lit (.bool true)], args := [d1, d2, d3] }
  | _ => none }
def judgeLiesRow : OpenClaim := { program := "ytgddfhnochcolaa", sum := "856461ecc9c96cb1acedab0dd7b7676beb6d9e36a64e5b5593a6841474d8a462", func := "darning/darninglaw25.JudgeLies", spec := "judgeLies", inPlace := ["slices.overlaps[darning/model.extent]"], unfollowed := true, recurses := true, apart := false }
def JudgeLiesSaid : Prop := judgeLiesRow.holds Try.pinned (OpenSpec.ofChange judgeLiesSpec)

/-- ITS FALSE NEIGHBOUR: 'it returns false'. Refute it at one input. -/
def judgeLiesWrong : ChangeSpec := { name := "judgeLies", fn := fun _ => fun
  | [d1, d2, d3] => { results := [.lit (.bool false)], args := [d1, d2, d3] }
  | _ => none }
def JudgeLiesWrongFalsely : Prop := judgeLiesRow.holds Try.pinned (OpenSpec.ofChange judgeLiesWrong)

/-- 'darninglaw25.JudgeWorn': WHATEVER THE INPUT: true; the input reads as it did. -/
def judgeWornSpec : ChangeSpec := { name := "judgeWorn", fn := fun _ => fun
  | [d1, d2] => { results := [.lit (.bool true)], args := [d1, d2] }
  | _ => none }
def judgeWornRow : OpenClaim := { program := "ytgddfhnochcolaa", sum := "856461ecc9c96cb1acedab0dd7b7676beb6d9e36a64e5b5593a6841474d8a462", func := "darning/darninglaw25.JudgeWorn", spec := "judgeWorn", inPlace := ["slices.overlaps[darning/model.extent]"], unfollowed := true, recurses := true, apart := false }
def JudgeWornSaid : Prop := judgeWornRow.holds Try.pinned (OpenSpec.ofChange judgeWornSpec)

/-- ITS FALSE NEIGHBOUR: 'it returns false'. Refute it at one input. -/
def judgeWornWrong : ChangeSpec := { name := "judgeWorn", fn := fun _ => fun
  | [d1, d2] => { results := [.lit (.bool false)], args := [d1, d2] }
  | _ => none }
def JudgeWornWrongFalsely : Prop := judgeWornRow.holds Try.pinned (OpenSpec.ofChange judgeWornWrong)

/-- 'darninglaw18.SpanForms': WHATEVER THE INPUT: true; the input reads as it did. -/
def spanFormsSpec : ChangeSpec := { name := "spanForms", fn := fun _ => fun
  | [d1, d2, d3, d4, d5] => { results := [.lit (.bool true)], args := [d1, d2, d3, d4, d5] }
  | _ => none }
def spanFormsRow : OpenClaim := { program := "ytgddfhnochcolaa", sum := "856461ecc9c96cb1acedab0dd7b7676beb6d9e36a64e5b5593a6841474d8a462", func := "darning/darninglaw18.SpanForms", spec := "spanForms", recurses := true, apart := false }
def SpanFormsSaid : Prop := spanFormsRow.holds Try.pinned (OpenSpec.ofChange spanFormsSpec)

/-- ITS FALSE NEIGHBOUR: 'it returns false'. Refute it at one input. -/
def spanFormsWrong : ChangeSpec := { name := "spanForms", fn := fun _ => fun
  | [d1, d2, d3, d4, d5] => { results := [.lit (.bool false)], args := [d1, d2, d3, d4, d5] }
  | _ => none }
def SpanFormsWrongFalsely : Prop := spanFormsRow.holds Try.pinned (OpenSpec.ofChange spanFormsWrong)

/-- 'darninglaw18.SpanLines': WHATEVER THE INPUT: true; the input reads as it did. -/
def spanLinesSpec : ChangeSpec := { name := "spanLines", fn := fun _ => fun
  | [d1, d2] => { results := [.lit (.bool true)], args := [d1, d2] }
  | _ => none }
def spanLinesRow : OpenClaim := { program := "ytgddfhnochcolaa", sum := "856461ecc9c96cb1acedab0dd7b7676beb6d9e36a64e5b5593a6841474d8a462", func := "darning/darninglaw18.SpanLines", spec := "spanLines", recurses := true, apart := false }
def SpanLinesSaid : Prop := spanLinesRow.holds Try.pinned (OpenSpec.ofChange spanLinesSpec)

/-- ITS FALSE NEIGHBOUR: 'it returns false'. Refute it at one input. -/
def spanLinesWrong : ChangeSpec := { name := "spanLines", fn := fun _ => fun
  | [d1, d2] => { results := [.lit (.bool false)], args := [d1, d2] }
  | _ => none }
def SpanLinesWrongFalsely : Prop := spanLinesRow.holds Try.pinned (OpenSpec.ofChange spanLinesWrong)

/- THE SECOND FORM. 'bulk': how many values and letters a reading holds, each counted each time it is reached (what is shared counts as often as it is met; a slice's spare places count too). A statement '..UptoSaid' is the law's where the arguments, and the package variables that the reading takes, are together of bulk at most 1048576: NARROWER than '..Said'. Prove '..Said' where nothing that the law and all that it calls make is longer than what came in: it says more and counts as full. Else prove '..UptoSaid'. A law counts once. -/
mutual
def uptoBulk {H : Type} : DataW H → Nat
  | .lit (.string bytes) => bytes.length + 1
  | .lit _ => 1
  | .nil => 1
  | .ptr d => uptoBulk d + 1
  | .slice elems spare => uptoBulkAll elems + uptoBulkAll spare + 1
  | .agg parts => uptoBulkAll parts + 1
  | .iface _ d => uptoBulk d + 1
  | .map entries => uptoBulkEntries entries + 1
  | .held _ => 1
def uptoBulkAll {H : Type} : List (DataW H) → Nat
  | [] => 0
  | d :: r => uptoBulk d + uptoBulkAll r
def uptoBulkEntries {H : Type} : List (Lit × DataW H) → Nat
  | [] => 0
  | x :: r => uptoBulkEntry x + uptoBulkEntries r
def uptoBulkEntry {H : Type} : Lit × DataW H → Nat
  | (.string bytes, d) => bytes.length + uptoBulk d + 1
  | (_, d) => uptoBulk d + 1
 end
def uptoSmall : (H : Type) → List (DataW H) → Bool := fun _ ds => decide (uptoBulkAll ds ≤ 1048576)
def OpenSpec.upto (s : _root_.Go.ChangeSpec) : _root_.Go.OpenSpec := { _root_.Go.OpenSpec.ofChange s with cond := some uptoSmall }

/-- 'darninglaw20.ModelRoots', WHERE WHAT IT READS IS OF BULK AT MOST 1048576: true; the input reads as it did. -/
def modelRootsUptoRow : OpenClaim := { program := "ytgddfhnochcolaa", sum := "856461ecc9c96cb1acedab0dd7b7676beb6d9e36a64e5b5593a6841474d8a462", func := "darning/darninglaw20.ModelRoots", spec := "modelRoots", inPlace := ["slices.overlaps[darning/model.extent]"], unfollowed := true, recurses := true, apart := false, narrowed := true }
def ModelRootsUptoSaid : Prop := modelRootsUptoRow.holds Try.pinned (OpenSpec.upto modelRootsSpec)

/-- 'darninglaw20.ModelBytes', WHERE WHAT IT READS IS OF BULK AT MOST 1048576: true; the input reads as it did. -/
def modelBytesUptoRow : OpenClaim := { program := "ytgddfhnochcolaa", sum := "856461ecc9c96cb1acedab0dd7b7676beb6d9e36a64e5b5593a6841474d8a462", func := "darning/darninglaw20.ModelBytes", spec := "modelBytes", inPlace := ["slices.overlaps[darning/model.extent]"], unfollowed := true, recurses := true, apart := false, narrowed := true }
def ModelBytesUptoSaid : Prop := modelBytesUptoRow.holds Try.pinned (OpenSpec.upto modelBytesSpec)

/-- 'darninglaw20.ModelPlays', WHERE WHAT IT READS IS OF BULK AT MOST 1048576: true; the input reads as it did. -/
def modelPlaysUptoRow : OpenClaim := { program := "ytgddfhnochcolaa", sum := "856461ecc9c96cb1acedab0dd7b7676beb6d9e36a64e5b5593a6841474d8a462", func := "darning/darninglaw20.ModelPlays", spec := "modelPlays", inPlace := ["slices.overlaps[darning/model.extent]"], unfollowed := true, recurses := true, apart := false, narrowed := true }
def ModelPlaysUptoSaid : Prop := modelPlaysUptoRow.holds Try.pinned (OpenSpec.upto modelPlaysSpec)

/-- 'darninglaw20.ModelNil', WHERE WHAT IT READS IS OF BULK AT MOST 1048576: true; the input reads as it did. -/
def modelNilUptoRow : OpenClaim := { program := "ytgddfhnochcolaa", sum := "856461ecc9c96cb1acedab0dd7b7676beb6d9e36a64e5b5593a6841474d8a462", func := "darning/darninglaw20.ModelNil", spec := "modelNil", inPlace := ["slices.overlaps[darning/model.extent]"], unfollowed := true, recurses := true, apart := false, narrowed := true }
def ModelNilUptoSaid : Prop := modelNilUptoRow.holds Try.pinned (OpenSpec.upto modelNilSpec)

/-- 'darninglaw20.ModelFits', WHERE WHAT IT READS IS OF BULK AT MOST 1048576: true; the input reads as it did. -/
def modelFitsUptoRow : OpenClaim := { program := "ytgddfhnochcolaa", sum := "856461ecc9c96cb1acedab0dd7b7676beb6d9e36a64e5b5593a6841474d8a462", func := "darning/darninglaw20.ModelFits", spec := "modelFits", inPlace := ["slices.overlaps[darning/model.extent]"], unfollowed := true, recurses := true, apart := false, narrowed := true }
def ModelFitsUptoSaid : Prop := modelFitsUptoRow.holds Try.pinned (OpenSpec.upto modelFitsSpec)

/-- 'darninglaw25.JudgeSees', WHERE WHAT IT READS IS OF BULK AT MOST 1048576: true; the input reads as it did. -/
def judgeSeesUptoRow : OpenClaim := { program := "ytgddfhnochcolaa", sum := "856461ecc9c96cb1acedab0dd7b7676beb6d9e36a64e5b5593a6841474d8a462", func := "darning/darninglaw25.JudgeSees", spec := "judgeSees", inPlace := ["slices.overlaps[darning/model.extent]"], unfollowed := true, recurses := true, apart := false, narrowed := true }
def JudgeSeesUptoSaid : Prop := judgeSeesUptoRow.holds Try.pinned (OpenSpec.upto judgeSeesSpec)

/-- 'darninglaw25.JudgeNil', WHERE WHAT IT READS IS OF BULK AT MOST 1048576: true; the input reads as it did. -/
def judgeNilUptoRow : OpenClaim := { program := "ytgddfhnochcolaa", sum := "856461ecc9c96cb1acedab0dd7b7676beb6d9e36a64e5b5593a6841474d8a462", func := "darning/darninglaw25.JudgeNil", spec := "judgeNil", inPlace := ["slices.overlaps[darning/model.extent]"], unfollowed := true, recurses := true, apart := false, narrowed := true }
def JudgeNilUptoSaid : Prop := judgeNilUptoRow.holds Try.pinned (OpenSpec.upto judgeNilSpec)

/-- 'darninglaw25.JudgeLies', WHERE WHAT IT READS IS OF BULK AT MOST 1048576: true; the input reads as it did. -/
def judgeLiesUptoRow : OpenClaim := { program := "ytgddfhnochcolaa", sum := "856461ecc9c96cb1acedab0dd7b7676beb6d9e36a64e5b5593a6841474d8a462", func := "darning/darninglaw25.JudgeLies", spec := "judgeLies", inPlace := ["slices.overlaps[darning/model.extent]"], unfollowed := true, recurses := true, apart := false, narrowed := true }
def JudgeLiesUptoSaid : Prop := judgeLiesUptoRow.holds Try.pinned (OpenSpec.upto judgeLiesSpec)

/-- 'darninglaw25.JudgeWorn', WHERE WHAT IT READS IS OF BULK AT MOST 1048576: true; the input reads as it did. -/
def judgeWornUptoRow : OpenClaim := { program := "ytgddfhnochcolaa", sum := "856461ecc9c96cb1acedab0dd7b7676beb6d9e36a64e5b5593a6841474d8a462", func := "darning/darninglaw25.JudgeWorn", spec := "judgeWorn", inPlace := ["slices.overlaps[darning/model.extent]"], unfollowed := true, recurses := true, apart := false, narrowed := true }
def JudgeWornUptoSaid : Prop := judgeWornUptoRow.holds Try.pinned (OpenSpec.upto judgeWornSpec)

/-- 'darninglaw18.SpanForms', WHERE WHAT IT READS IS OF BULK AT MOST 1048576: true; the input reads as it did. -/
def spanFormsUptoRow : OpenClaim := { program := "ytgddfhnochcolaa", sum := "856461ecc9c96cb1acedab0dd7b7676beb6d9e36a64e5b5593a6841474d8a462", func := "darning/darninglaw18.SpanForms", spec := "spanForms", recurses := true, apart := false, narrowed := true }
def SpanFormsUptoSaid : Prop := spanFormsUptoRow.holds Try.pinned (OpenSpec.upto spanFormsSpec)

/-- 'darninglaw18.SpanLines', WHERE WHAT IT READS IS OF BULK AT MOST 1048576: true; the input reads as it did. -/
def spanLinesUptoRow : OpenClaim := { program := "ytgddfhnochcolaa", sum := "856461ecc9c96cb1acedab0dd7b7676beb6d9e36a64e5b5593a6841474d8a462", func := "darning/darninglaw18.SpanLines", spec := "spanLines", recurses := true, apart := false, narrowed := true }
def SpanLinesUptoSaid : Prop := spanLinesUptoRow.holds Try.pinned (OpenSpec.upto spanLinesSpec)

end Rows
end Go.Proofs.Ytgddfhnochcolaa
