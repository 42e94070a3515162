/-
  No cell of these rows narrows 'for every input' (looked for: loops, veiled, ifaces, maps, wideKeys, modest, calm, conditions, laid).
  DERIVED. THE GIVEN ROWS OF THIS SEAT. 11 by the template 'for every input the law returns true; each argument reads behind the call as it read before'; 0 by the template 'total and deterministic' (their statements: YtmbipadfcbndgaaTotals.lean).
  GIVEN WITH THE SEED: the statements are not yours to turn. If you find one false, say at which input.
  Laid BY PROGRAM, IN A SANDBOX (cutbox-rows.mjs): the forced cells as the released guide's own fill.sh prints them over the translation c3c6c53871f9d103… (all of the seat's roots in one cut). By AI agents, Wed Nov 11 2026. No macro, syntax, notation, axiom, sorry.
-/
import Derived.Test.YtmbipadfcbndgaaChecked
import GoSem.Claim
import GoSem.ClaimJoined
import GoSem.ClaimMapViews
import Derived.JoinedTies
import Derived.KernelRfl
namespace Go.Proofs.Ytmbipadfcbndgaa
/- THE CELL 'sum', in the pinned program and in every row, IS THE sha256 OF THE DUMP (.gsa) THAT YtmbipadfcbndgaaProg.lean LOADS. Nothing in Lean hashes anything: it is a label: what it is worth is what the hold of that sum in a sandbox is worth. -/
noncomputable def Try.pinned : Pinned := { name := "ytmbipadfcbndgaa", sum := "c3c6c53871f9d1037007c63e26d0b244b119833e1c2460eac529401027561bb8", checked := Try.checked }
namespace Rows
def none {H : Type} : Left H := { results := [], args := [] }

/-- 'darninglaw11.PlanForms': WHATEVER THE INPUT: true; the input reads as it did. -/
def planFormsSpec : ChangeSpec := { name := "planForms", fn := fun _ => fun
  | [d1, d2] => { results := [.lit (.bool true)], args := [d1, d2] }
  | _ => none }
def planFormsRow : OpenClaim := { program := "ytmbipadfcbndgaa", sum := "c3c6c53871f9d1037007c63e26d0b244b119833e1c2460eac529401027561bb8", func := "darning/darninglaw11.PlanForms", spec := "planForms", apart := false }
def PlanFormsSaid : Prop := planFormsRow.holds Try.pinned (OpenSpec.ofChange planFormsSpec)

/-- ITS FALSE NEIGHBOUR: 'it returns false'. Refute it at one input. -/
def planFormsWrong : ChangeSpec := { name := "planForms", fn := fun _ => fun
  | [d1, d2] => { results := [.lit (.bool false)], args := [d1, d2] }
  | _ => none }
def PlanFormsWrongFalsely : Prop := planFormsRow.holds Try.pinned (OpenSpec.ofChange planFormsWrong)

/-- 'darninglaw11.PlanHomes': WHATEVER THE INPUT: true; the input reads as it did. -/
def planHomesSpec : ChangeSpec := { name := "planHomes", fn := fun _ => fun
  | [d1, d2, d3] => { results := [.lit (.bool true)], args := [d1, d2, d3] }
  | _ => none }
def planHomesRow : OpenClaim := { program := "ytmbipadfcbndgaa", sum := "c3c6c53871f9d1037007c63e26d0b244b119833e1c2460eac529401027561bb8", func := "darning/darninglaw11.PlanHomes", spec := "planHomes", apart := false }
def PlanHomesSaid : Prop := planHomesRow.holds Try.pinned (OpenSpec.ofChange planHomesSpec)

/-- ITS FALSE NEIGHBOUR: 'it returns false'. Refute it at one input. -/
def planHomesWrong : ChangeSpec := { name := "planHomes", fn := fun _ => fun
  | [d1, d2, d3] => { results := [.lit (.bool false)], args := [d1, d2, d3] }
  | _ => none }
def PlanHomesWrongFalsely : Prop := planHomesRow.holds Try.pinned (OpenSpec.ofChange planHomesWrong)

/-- 'darninglaw11.PlanEdges': WHATEVER THE INPUT: true; the input reads as it did. -/
def planEdgesSpec : ChangeSpec := { name := "planEdges", fn := fun _ => fun
  | [d1, d2] => { results := [.lit (.bool true)], args := [d1, d2] }
  | _ => none }
def planEdgesRow : OpenClaim := { program := "ytmbipadfcbndgaa", sum := "c3c6c53871f9d1037007c63e26d0b244b119833e1c2460eac529401027561bb8", func := "darning/darninglaw11.PlanEdges", spec := "planEdges", apart := false }
def PlanEdgesSaid : Prop := planEdgesRow.holds Try.pinned (OpenSpec.ofChange planEdgesSpec)

/-- ITS FALSE NEIGHBOUR: 'it returns false'. Refute it at one input. -/
def planEdgesWrong : ChangeSpec := { name := "planEdges", fn := fun _ => fun
  | [d1, d2] => { results := [.lit (.bool false)], args := [d1, d2] }
  | _ => none }
def PlanEdgesWrongFalsely : Prop := planEdgesRow.holds Try.pinned (OpenSpec.ofChange planEdgesWrong)

/-- 'darninglaw11.PlanMore': WHATEVER THE INPUT: true; the input reads as it did. -/
def planMoreSpec : ChangeSpec := { name := "planMore", fn := fun _ => fun
  | [d1, d2, d3, d4] => { results := [.lit (.bool true)], args := [d1, d2, d3, d4] }
  | _ => none }
def planMoreRow : OpenClaim := { program := "ytmbipadfcbndgaa", sum := "c3c6c53871f9d1037007c63e26d0b244b119833e1c2460eac529401027561bb8", func := "darning/darninglaw11.PlanMore", spec := "planMore", apart := false }
def PlanMoreSaid : Prop := planMoreRow.holds Try.pinned (OpenSpec.ofChange planMoreSpec)

/-- ITS FALSE NEIGHBOUR: 'it returns false'. Refute it at one input. -/
def planMoreWrong : ChangeSpec := { name := "planMore", fn := fun _ => fun
  | [d1, d2, d3, d4] => { results := [.lit (.bool false)], args := [d1, d2, d3, d4] }
  | _ => none }
def PlanMoreWrongFalsely : Prop := planMoreRow.holds Try.pinned (OpenSpec.ofChange planMoreWrong)

/-- 'darninglaw18.SpanPieces': WHATEVER THE INPUT: true; the input reads as it did. -/
def spanPiecesSpec : ChangeSpec := { name := "spanPieces", fn := fun _ => fun
  | [d1, d2] => { results := [.lit (.bool true)], args := [d1, d2] }
  | _ => none }
def spanPiecesRow : OpenClaim := { program := "ytmbipadfcbndgaa", sum := "c3c6c53871f9d1037007c63e26d0b244b119833e1c2460eac529401027561bb8", func := "darning/darninglaw18.SpanPieces", spec := "spanPieces", apart := false }
def SpanPiecesSaid : Prop := spanPiecesRow.holds Try.pinned (OpenSpec.ofChange spanPiecesSpec)

/-- ITS FALSE NEIGHBOUR: 'it returns false'. Refute it at one input. -/
def spanPiecesWrong : ChangeSpec := { name := "spanPieces", fn := fun _ => fun
  | [d1, d2] => { results := [.lit (.bool false)], args := [d1, d2] }
  | _ => none }
def SpanPiecesWrongFalsely : Prop := spanPiecesRow.holds Try.pinned (OpenSpec.ofChange spanPiecesWrong)

/-- 'darninglaw24.CostForms': WHATEVER THE INPUT: true; the input reads as it did. -/
def costFormsSpec : ChangeSpec := { name := "costForms", fn := fun _ => fun
  | [d1, d2, d3] => { results := [.lit (.bool true)], args := [d1, d2, d3] }
  | _ => none }
def costFormsRow : OpenClaim := { program := "ytmbipadfcbndgaa", sum := "c3c6c53871f9d1037007c63e26d0b244b119833e1c2460eac529401027561bb8", func := "darning/darninglaw24.CostForms", spec := "costForms", apart := false }
def CostFormsSaid : Prop := costFormsRow.holds Try.pinned (OpenSpec.ofChange costFormsSpec)

/-- ITS FALSE NEIGHBOUR: 'it returns false'. Refute it at one input. -/
def costFormsWrong : ChangeSpec := { name := "costForms", fn := fun _ => fun
  | [d1, d2, d3] => { results := [.lit (.bool false)], args := [d1, d2, d3] }
  | _ => none }
def CostFormsWrongFalsely : Prop := costFormsRow.holds Try.pinned (OpenSpec.ofChange costFormsWrong)

/-- 'darninglaw24.CostMore': WHATEVER THE INPUT: true; the input reads as it did. -/
def costMoreSpec : ChangeSpec := { name := "costMore", fn := fun _ => fun
  | [d1, d2, d3] => { results := [.lit (.bool true)], args := [d1, d2, d3] }
  | _ => none }
def costMoreRow : OpenClaim := { program := "ytmbipadfcbndgaa", sum := "c3c6c53871f9d1037007c63e26d0b244b119833e1c2460eac529401027561bb8", func := "darning/darninglaw24.CostMore", spec := "costMore", apart := false }
def CostMoreSaid : Prop := costMoreRow.holds Try.pinned (OpenSpec.ofChange costMoreSpec)

/-- ITS FALSE NEIGHBOUR: 'it returns false'. Refute it at one input. -/
def costMoreWrong : ChangeSpec := { name := "costMore", fn := fun _ => fun
  | [d1, d2, d3] => { results := [.lit (.bool false)], args := [d1, d2, d3] }
  | _ => none }
def CostMoreWrongFalsely : Prop := costMoreRow.holds Try.pinned (OpenSpec.ofChange costMoreWrong)

/-- 'darninglaw24.CostHomes': WHATEVER THE INPUT: true; the input reads as it did. -/
def costHomesSpec : ChangeSpec := { name := "costHomes", fn := fun _ => fun
  | [d1, d2, d3, d4] => { results := [.lit (.bool true)], args := [d1, d2, d3, d4] }
  | _ => none }
def costHomesRow : OpenClaim := { program := "ytmbipadfcbndgaa", sum := "c3c6c53871f9d1037007c63e26d0b244b119833e1c2460eac529401027561bb8", func := "darning/darninglaw24.CostHomes", spec := "costHomes", apart := false }
def CostHomesSaid : Prop := costHomesRow.holds Try.pinned (OpenSpec.ofChange costHomesSpec)

/-- ITS FALSE NEIGHBOUR: 'it returns false'. Refute it at one input. -/
def costHomesWrong : ChangeSpec := { name := "costHomes", fn := fun _ => fun
  | [d1, d2, d3, d4] => { results := [.lit (.bool false)], args := [d1, d2, d3, d4] }
  | _ => none }
def CostHomesWrongFalsely : Prop := costHomesRow.holds Try.pinned (OpenSpec.ofChange costHomesWrong)

/-- 'darninglaw24.CostKinds': WHATEVER THE INPUT: true; the input reads as it did. -/
def costKindsSpec : ChangeSpec := { name := "costKinds", fn := fun _ => fun
  | [d1, d2, d3] => { results := [.lit (.bool true)], args := [d1, d2, d3] }
  | _ => none }
def costKindsRow : OpenClaim := { program := "ytmbipadfcbndgaa", sum := "c3c6c53871f9d1037007c63e26d0b244b119833e1c2460eac529401027561bb8", func := "darning/darninglaw24.CostKinds", spec := "costKinds", apart := false }
def CostKindsSaid : Prop := costKindsRow.holds Try.pinned (OpenSpec.ofChange costKindsSpec)

/-- ITS FALSE NEIGHBOUR: 'it returns false'. Refute it at one input. -/
def costKindsWrong : ChangeSpec := { name := "costKinds", fn := fun _ => fun
  | [d1, d2, d3] => { results := [.lit (.bool false)], args := [d1, d2, d3] }
  | _ => none }
def CostKindsWrongFalsely : Prop := costKindsRow.holds Try.pinned (OpenSpec.ofChange costKindsWrong)

/-- 'darninglaw18.SpanBack': WHATEVER THE INPUT: true; the input reads as it did. -/
def spanBackSpec : ChangeSpec := { name := "spanBack", fn := fun _ => fun
  | [d1, d2, d3, d4] => { results := [.lit (.bool true)], args := [d1, d2, d3, d4] }
  | _ => none }
def spanBackRow : OpenClaim := { program := "ytmbipadfcbndgaa", sum := "c3c6c53871f9d1037007c63e26d0b244b119833e1c2460eac529401027561bb8", func := "darning/darninglaw18.SpanBack", spec := "spanBack", apart := false }
def SpanBackSaid : Prop := spanBackRow.holds Try.pinned (OpenSpec.ofChange spanBackSpec)

/-- ITS FALSE NEIGHBOUR: 'it returns false'. Refute it at one input. -/
def spanBackWrong : ChangeSpec := { name := "spanBack", fn := fun _ => fun
  | [d1, d2, d3, d4] => { results := [.lit (.bool false)], args := [d1, d2, d3, d4] }
  | _ => none }
def SpanBackWrongFalsely : Prop := spanBackRow.holds Try.pinned (OpenSpec.ofChange spanBackWrong)

/-- 'darninglaw18.SpanTwice': WHATEVER THE INPUT: true; the input reads as it did. -/
def spanTwiceSpec : ChangeSpec := { name := "spanTwice", fn := fun _ => fun
  | [d1, d2, d3, d4] => { results := [.lit (.bool true)], args := [d1, d2, d3, d4] }
  | _ => none }
def spanTwiceRow : OpenClaim := { program := "ytmbipadfcbndgaa", sum := "c3c6c53871f9d1037007c63e26d0b244b119833e1c2460eac529401027561bb8", func := "darning/darninglaw18.SpanTwice", spec := "spanTwice", apart := false }
def SpanTwiceSaid : Prop := spanTwiceRow.holds Try.pinned (OpenSpec.ofChange spanTwiceSpec)

/-- ITS FALSE NEIGHBOUR: 'it returns false'. Refute it at one input. -/
def spanTwiceWrong : ChangeSpec := { name := "spanTwice", fn := fun _ => fun
  | [d1, d2, d3, d4] => { results := [.lit (.bool false)], args := [d1, d2, d3, d4] }
  | _ => none }
def SpanTwiceWrongFalsely : Prop := spanTwiceRow.holds Try.pinned (OpenSpec.ofChange spanTwiceWrong)

/- THE SECOND FORM. 'bulk': how many values and letters a reading holds, each counted each time it is reached (what is shared counts as often as it is met; a slice's spare places count too). A statement '..UptoSaid' is the law's where the arguments, and the package variables that the reading takes, are together of bulk at most 1048576: NARROWER than '..Said'. Prove '..Said' where nothing that the law and all that it calls make is longer than what came in: it says more and counts as full. Else prove '..UptoSaid'. A law counts once. -/
mutual
def uptoBulk {H : Type} : DataW H → Nat
  | .lit (.string bytes) => bytes.length + 1
  | .lit _ => 1
  | .nil => 1
  | .ptr d => uptoBulk d + 1
  | .slice elems spare => uptoBulkAll elems + uptoBulkAll spare + 1
  | .agg parts => uptoBulkAll parts + 1
  | .iface _ d => uptoBulk d + 1
  | .map entries => uptoBulkEntries entries + 1
  | .held _ => 1
def uptoBulkAll {H : Type} : List (DataW H) → Nat
  | [] => 0
  | d :: r => uptoBulk d + uptoBulkAll r
def uptoBulkEntries {H : Type} : List (Lit × DataW H) → Nat
  | [] => 0
  | x :: r => uptoBulkEntry x + uptoBulkEntries r
def uptoBulkEntry {H : Type} : Lit × DataW H → Nat
  | (.string bytes, d) => bytes.length + uptoBulk d + 1
  | (_, d) => uptoBulk d + 1
 end
def uptoSmall : (H : Type) → List (DataW H) → Bool := fun _ ds => decide (uptoBulkAll ds ≤ 1048576)
def OpenSpec.upto (s : _root_.Go.ChangeSpec) : _root_.Go.OpenSpec := { _root_.Go.OpenSpec.ofChange s with cond := some uptoSmall }

/-- 'darninglaw11.PlanForms', WHERE WHAT IT READS IS OF BULK AT MOST 1048576: true; the input reads as it did. -/
def planFormsUptoRow : OpenClaim := { program := "ytmbipadfcbndgaa", sum := "c3c6c53871f9d1037007c63e26d0b244b119833e1c2460eac529401027561bb8", func := "darning/darninglaw11.PlanForms", spec := "planForms", apart := false, narrowed := true }
def PlanFormsUptoSaid : Prop := planFormsUptoRow.holds Try.pinned (OpenSpec.upto planFormsSpec)

/-- 'darninglaw11.PlanHomes', WHERE WHAT IT READS IS OF BULK AT MOST 1048576: true; the input reads as it did. -/
def planHomesUptoRow : OpenClaim := { program := "ytmbipadfcbndgaa", sum := "c3c6c53871f9d1037007c63e26d0b244b119833e1c2460eac529401027561bb8", func := "darning/darninglaw11.PlanHomes", spec := "planHomes", apart := false, narrowed := true }
def PlanHomesUptoSaid : Prop := planHomesUptoRow.holds Try.pinned (OpenSpec.upto planHomesSpec)

/-- 'darninglaw11.PlanEdges', WHERE WHAT IT READS IS OF BULK AT MOST 1048576: true; the input reads as it did. -/
def planEdgesUptoRow : OpenClaim := { program := "ytmbipadfcbndgaa", sum := "c3c6c53871f9d1037007c63e26d0b244b119833e1c2460eac529401027561bb8", func := "darning/darninglaw11.PlanEdges", spec := "planEdges", apart := false, narrowed := true }
def PlanEdgesUptoSaid : Prop := planEdgesUptoRow.holds Try.pinned (OpenSpec.upto planEdgesSpec)

/-- 'darninglaw11.PlanMore', WHERE WHAT IT READS IS OF BULK AT MOST 1048576: true; the input reads as it did. -/
def planMoreUptoRow : OpenClaim := { program := "ytmbipadfcbndgaa", sum := "c3c6c53871f9d1037007c63e26d0b244b119833e1c2460eac529401027561bb8", func := "darning/darninglaw11.PlanMore", spec := "planMore", apart := false, narrowed := true }
def PlanMoreUptoSaid : Prop := planMoreUptoRow.holds Try.pinned (OpenSpec.upto planMoreSpec)

/-- 'darninglaw18.SpanPieces', WHERE WHAT IT READS IS OF BULK AT MOST 1048576: true; the input reads as it did. -/
def spanPiecesUptoRow : OpenClaim := { program := "ytmbipadfcbndgaa", sum := "c3c6c53871f9d1037007c63e26d0b244b119833e1c2460eac529401027561bb8", func := "darning/darninglaw18.SpanPieces", spec := "spanPieces", apart := false, narrowed := true }
def SpanPiecesUptoSaid : Prop := spanPiecesUptoRow.holds Try.pinned (OpenSpec.upto spanPiecesSpec)

/-- 'darninglaw24.CostForms', WHERE WHAT IT READS IS OF BULK AT MOST 1048576: true; the input reads as it did. -/
def costFormsUptoRow : OpenClaim := { program := "ytmbipadfcbndgaa", sum := "c3c6c53871f9d1037007c63e26d0b244b119833e1c2460eac529401027561bb8", func := "darning/darninglaw24.CostForms", spec := "costForms", apart := false, narrowed := true }
def CostFormsUptoSaid : Prop := costFormsUptoRow.holds Try.pinned (OpenSpec.upto costFormsSpec)

/-- 'darninglaw24.CostMore', WHERE WHAT IT READS IS OF BULK AT MOST 1048576: true; the input reads as it did. -/
def costMoreUptoRow : OpenClaim := { program := "ytmbipadfcbndgaa", sum := "c3c6c53871f9d1037007c63e26d0b244b119833e1c2460eac529401027561bb8", func := "darning/darninglaw24.CostMore", spec := "costMore", apart := false, narrowed := true }
def CostMoreUptoSaid : Prop := costMoreUptoRow.holds Try.pinned (OpenSpec.upto costMoreSpec)

/-- 'darninglaw24.CostHomes', WHERE WHAT IT READS IS OF BULK AT MOST 1048576: true; the input reads as it did. -/
def costHomesUptoRow : OpenClaim := { program := "ytmbipadfcbndgaa", sum := "c3c6c53871f9d1037007c63e26d0b244b119833e1c2460eac529401027561bb8", func := "darning/darninglaw24.CostHomes", spec := "costHomes", apart := false, narrowed := true }
def CostHomesUptoSaid : Prop := costHomesUptoRow.holds Try.pinned (OpenSpec.upto costHomesSpec)

/-- 'darninglaw24.CostKinds', WHERE WHAT IT READS IS OF BULK AT MOST 1048576: true; the input reads as it did. -/
def costKindsUptoRow : OpenClaim := { program := "ytmbipadfcbndgaa", sum := "c3c6c53871f9d1037007c63e26d0b244b119833e1c2460eac529401027561bb8", func := "darning/darninglaw24.CostKinds", spec := "costKinds", apart := false, narrowed := true }
def CostKindsUptoSaid : Prop := costKindsUptoRow.holds Try.pinned (OpenSpec.upto costKindsSpec)

/-- 'darninglaw18.SpanBack', WHERE WHAT IT READS IS OF BULK AT MOST 1048576: true; the input reads as it did. -/
def spanBackUptoRow : OpenClaim := { program := "ytmbipadfcbndgaa", sum := "c3c6c53871f9d1037007c63e26d0b244b119833e1c2460eac529401027561bb8", func := "darning/darninglaw18.SpanBack", spec := "spanBack", apart := false, narrowed := true }
def SpanBackUptoSaid : Prop := spanBackUptoRow.holds Try.pinned (OpenSpec.upto spanBackSpec)

/-- 'darninglaw18.SpanTwice', WHERE WHAT IT READS IS OF BULK AT MOST 1048576: true; the input reads as it did. -/
def spanTwiceUptoRow : OpenClaim := { program := "ytmbipadfcbndgaa", sum := "c3c6c53871f9d1037007c63e26d0b244b119833e1c2460eac529401027561bb8", func := "darning/darninglaw18.SpanTwice", spec := "spanTwice", apart := false, narrowed := true }
def SpanTwiceUptoSaid : Prop := spanTwiceUptoRow.holds Try.pinned (OpenSpec.upto spanTwiceSpec)

end Rows
end Go.Proofs.Ytmbipadfcbndgaa
