import Derived.Test.YtmbipadfcbndgaaAbsTwo
import Derived.Test.YtmbipadfcbndgaaProg
set_option linter.all false
namespace Go.Proofs.Ytmbipadfcbndgaa
open Go Go.Abs
set_option linter.unusedVariables false
set_option maxRecDepth 100000

def tyL : List (Nat × TyE) := [
  (3, { k := .int .i64, sub := .none, size := 1, bytes := 8, zero := [(Value.int .i64 (0 : Int))], eqs := false }),
  (4, { k := .bool, sub := .none, size := 1, bytes := 1, zero := [(Value.bool false)], eqs := false }),
  (5, { k := .int .u8, sub := .none, size := 1, bytes := 1, zero := [(Value.int .u8 (0 : Int))], eqs := false }),
  (9, { k := .str, sub := .none, size := 1, bytes := 16, zero := [(Value.string ⟨#[]⟩)], eqs := false }),
  (23, { k := .agg, sub := (.fields [(0, 3), (1, 3), (2, 3), (3, 3)]), size := 4, bytes := 32, zero := [(Value.int .i64 (0 : Int)), (Value.int .i64 (0 : Int)), (Value.int .i64 (0 : Int)), (Value.int .i64 (0 : Int))], eqs := true }),
  (29, { k := .int .u64, sub := .none, size := 1, bytes := 8, zero := [(Value.int .u64 (0 : Int))], eqs := false }),
  (34, { k := .sl, sub := (.elem 37), size := 1, bytes := 24, zero := [(Value.slice none 0 0)], eqs := false }),
  (37, { k := .agg, sub := (.fields [(0, 3), (1, 3), (2, 3)]), size := 3, bytes := 24, zero := [(Value.int .i64 (0 : Int)), (Value.int .i64 (0 : Int)), (Value.int .i64 (0 : Int))], eqs := true }),
  (38, { k := .sl, sub := (.elem 5), size := 1, bytes := 24, zero := [(Value.slice none 0 0)], eqs := false }),
  (40, { k := .agg, sub := (.fields [(0, 3), (1, 3), (2, 3), (3, 3), (4, 38)]), size := 5, bytes := 56, zero := [(Value.int .i64 (0 : Int)), (Value.int .i64 (0 : Int)), (Value.int .i64 (0 : Int)), (Value.int .i64 (0 : Int)), (Value.slice none 0 0)], eqs := false }),
  (45, { k := .sl, sub := (.elem 50), size := 1, bytes := 24, zero := [(Value.slice none 0 0)], eqs := false }),
  (47, { k := .sl, sub := (.elem 29), size := 1, bytes := 24, zero := [(Value.slice none 0 0)], eqs := false }),
  (50, { k := .agg, sub := (.fields [(0, 3), (1, 3), (2, 3), (3, 3), (4, 38)]), size := 5, bytes := 56, zero := [(Value.int .i64 (0 : Int)), (Value.int .i64 (0 : Int)), (Value.int .i64 (0 : Int)), (Value.int .i64 (0 : Int)), (Value.slice none 0 0)], eqs := false }),
  (51, { k := .sl, sub := (.elem 67), size := 1, bytes := 24, zero := [(Value.slice none 0 0)], eqs := false }),
  (52, { k := .int .i64, sub := .none, size := 1, bytes := 8, zero := [(Value.int .i64 (0 : Int))], eqs := false }),
  (58, { k := .sl, sub := (.elem 3), size := 1, bytes := 24, zero := [(Value.slice none 0 0)], eqs := false }),
  (67, { k := .agg, sub := (.fields [(0, 3), (1, 29)]), size := 2, bytes := 16, zero := [(Value.int .i64 (0 : Int)), (Value.int .u64 (0 : Int))], eqs := true }),
  (73, { k := .sl, sub := (.elem 80), size := 1, bytes := 24, zero := [(Value.slice none 0 0)], eqs := false }),
  (80, { k := .agg, sub := (.fields [(0, 3), (1, 3), (2, 4)]), size := 3, bytes := 24, zero := [(Value.int .i64 (0 : Int)), (Value.int .i64 (0 : Int)), (Value.bool false)], eqs := true }),
  (88, { k := .int .u64, sub := .none, size := 1, bytes := 8, zero := [(Value.int .u64 (0 : Int))], eqs := false }),
  (53, { k := .bad, sub := .tup [51, 3, 52], size := 0, bytes := 0, zero := [], eqs := false }),
  (55, { k := .bad, sub := .tup [51, 52], size := 0, bytes := 0, zero := [], eqs := false }),
  (62, { k := .bad, sub := .tup [51, 4], size := 0, bytes := 0, zero := [], eqs := false }),
  (64, { k := .bad, sub := .tup [38, 4], size := 0, bytes := 0, zero := [], eqs := false }),
  (74, { k := .bad, sub := .tup [73, 4], size := 0, bytes := 0, zero := [], eqs := false }),
  (81, { k := .bad, sub := .tup [73, 3, 4], size := 0, bytes := 0, zero := [], eqs := false }),
  (89, { k := .bad, sub := .tup [3, 4, 4], size := 0, bytes := 0, zero := [], eqs := false })]
def T : Nat → TyE := tyLook tyL
theorem hT : Agrees Try.prog T := agrees_of (by kernel_rfl)
theorem hm : Try.prog.follows .mixedOrders = true := by kernel_rfl
def pan (f : Nat) : Bool := ([] : List Nat).contains f

def darningref4_MayPlan (x0 : List Value) (H : AH) (k : Bool → AH → Prop) : Prop :=
  LCalls Try.prog 14 [(Value.agg (List.toArray x0))] H fun e H' => in1 .bool e noPan (fun r0 => k r0 H')

def plan_May (x0 : List Value) (H : AH) (k : Bool → AH → Prop) : Prop :=
  LCalls Try.prog 15 [(Value.agg (List.toArray x0))] H fun e H' => in1 .bool e noPan (fun r0 => k r0 H')

def plan_Words (x0 : List Value) (H : AH) (k : Int → AH → Prop) : Prop :=
  LCalls Try.prog 16 [(Value.agg (List.toArray x0))] H fun e H' => in1 (.int .i64) e noPan (fun r0 => k r0 H')

def count_Page (x0 : Int) (H : AH) (k : Int → AH → Prop) : Prop :=
  LCalls Try.prog 24 [(Value.int .i64 x0)] H fun e H' => in1 (.int .i64) e noPan (fun r0 => k r0 H')

def plan_Pages (x0 : List Value) (H : AH) (k : Int → AH → Prop) : Prop :=
  LCalls Try.prog 17 [(Value.agg (List.toArray x0))] H fun e H' => in1 (.int .i64) e noPan (fun r0 => k r0 H')

def darningref4_Pages (x0 : List Value) (H : AH) (k : Int → AH → Prop) : Prop :=
  LCalls Try.prog 18 [(Value.agg (List.toArray x0))] H fun e H' => in1 (.int .i64) e noPan (fun r0 => k r0 H')

def plan_Logical (x0 : List Value) (H : AH) (k : Int → AH → Prop) : Prop :=
  LCalls Try.prog 19 [(Value.agg (List.toArray x0))] H fun e H' => in1 (.int .i64) e noPan (fun r0 => k r0 H')

def plan_Device (x0 : List Value) (H : AH) (k : Int → AH → Prop) : Prop :=
  LCalls Try.prog 20 [(Value.agg (List.toArray x0))] H fun e H' => in1 (.int .i64) e noPan (fun r0 => k r0 H')

def darningref4_Device (x0 : List Value) (H : AH) (k : Int → AH → Prop) : Prop :=
  LCalls Try.prog 21 [(Value.agg (List.toArray x0))] H fun e H' => in1 (.int .i64) e noPan (fun r0 => k r0 H')

def plan_Home (x0 : List Value) (x1 : Int) (H : AH) (k : Int → AH → Prop) : Prop :=
  LCalls Try.prog 22 [(Value.agg (List.toArray x0)), (Value.int .i64 x1)] H fun e H' => in1 (.int .i64) e noPan (fun r0 => k r0 H')

def darninglaw11_awake  (H : AH) (k : Bool → AH → Prop) : Prop :=
  LCalls Try.prog 23 [] H fun e H' => in1 .bool e noPan (fun r0 => k r0 H')

def darninglaw11_PlanForms (x0 : List Value) (x1 : Int) (H : AH) (k : Bool → AH → Prop) : Prop :=
  LCalls Try.prog 3 [(Value.agg (List.toArray x0)), (Value.int .i64 x1)] H fun e H' => in1 .bool e noPan (fun r0 => k r0 H')

def darninglaw11_PlanHomes (x0 : List Value) (x1 : Int) (x2 : Int) (H : AH) (k : Bool → AH → Prop) : Prop :=
  LCalls Try.prog 4 [(Value.agg (List.toArray x0)), (Value.int .i64 x1), (Value.int .i64 x2)] H fun e H' => in1 .bool e noPan (fun r0 => k r0 H')

def darninglaw11_PlanEdges (x0 : Int) (x1 : Int) (H : AH) (k : Bool → AH → Prop) : Prop :=
  LCalls Try.prog 5 [(Value.int .i64 x0), (Value.int .i64 x1)] H fun e H' => in1 .bool e noPan (fun r0 => k r0 H')

def darninglaw11_PlanMore (x0 : Int) (x1 : Int) (x2 : Int) (x3 : Int) (H : AH) (k : Bool → AH → Prop) : Prop :=
  LCalls Try.prog 6 [(Value.int .i64 x0), (Value.int .i64 x1), (Value.int .i64 x2), (Value.int .i64 x3)] H fun e H' => in1 .bool e noPan (fun r0 => k r0 H')

def span_Pieces (x0 : Int) (x1 : Int) (H : AH) (k : Sl → AH → Prop) : Prop :=
  LCalls Try.prog 25 [(Value.int .i64 x0), (Value.int .i64 x1)] H fun e H' => in1 .sl e noPan (fun r0 => k r0 H')

def span_within (x0 : Sl) (x1 : Int) (x2 : Int) (H : AH) (k : Bool → AH → Prop) : Prop :=
  LCalls Try.prog 60 [(Sl.val x0), (Value.int .i64 x1), (Value.int .i64 x2)] H fun e H' => in1 .bool e noPan (fun r0 => k r0 H')

def span_Read (x0 : Sl) (x1 : Int) (x2 : Int) (H : AH) (k : Sl → Bool → AH → Prop) : Prop :=
  LCalls Try.prog 44 [(Sl.val x0), (Value.int .i64 x1), (Value.int .i64 x2)] H fun e H' => in2 .sl .bool e noPan (fun r0 r1 => k r0 r1 H')

def span_Edits (x0 : Sl) (x1 : Int) (x2 : Sl) (H : AH) (k : Sl → Bool → AH → Prop) : Prop :=
  LCalls Try.prog 42 [(Sl.val x0), (Value.int .i64 x1), (Sl.val x2)] H fun e H' => in2 .sl .bool e noPan (fun r0 r1 => k r0 r1 H')

def darninglaw18_awake  (H : AH) (k : Bool → AH → Prop) : Prop :=
  LCalls Try.prog 26 [] H fun e H' => in1 .bool e noPan (fun r0 => k r0 H')

def darninglaw18_SpanPieces (x0 : Int) (x1 : Int) (H : AH) (k : Bool → AH → Prop) : Prop :=
  LCalls Try.prog 7 [(Value.int .i64 x0), (Value.int .i64 x1)] H fun e H' => in1 .bool e noPan (fun r0 => k r0 H')

def cost_Lines (x0 : List Value) (H : AH) (k : Int → AH → Prop) : Prop :=
  LCalls Try.prog 28 [(Value.agg (List.toArray x0))] H fun e H' => in1 (.int .i64) e noPan (fun r0 => k r0 H')

def cost_may (x0 : Int) (H : AH) (k : Bool → AH → Prop) : Prop :=
  LCalls Try.prog 46 [(Value.int .i64 x0)] H fun e H' => in1 .bool e noPan (fun r0 => k r0 H')

def cost_of (x0 : Int) (x1 : Int) (H : AH) (k : Int → AH → Prop) : Prop :=
  LCalls Try.prog 47 [(Value.int .i64 x0), (Value.int .i64 x1)] H fun e H' => in1 (.int .i64) e noPan (fun r0 => k r0 H')

def cost_Op (x0 : List Value) (x1 : Int) (H : AH) (k : Int → AH → Prop) : Prop :=
  LCalls Try.prog 30 [(Value.agg (List.toArray x0)), (Value.int .i64 x1)] H fun e H' => in1 (.int .i64) e noPan (fun r0 => k r0 H')

def cost_Recover (x0 : Int) (H : AH) (k : Int → AH → Prop) : Prop :=
  LCalls Try.prog 32 [(Value.int .i64 x0)] H fun e H' => in1 (.int .i64) e noPan (fun r0 => k r0 H')

def cost_Format (x0 : List Value) (H : AH) (k : Int → AH → Prop) : Prop :=
  LCalls Try.prog 34 [(Value.agg (List.toArray x0))] H fun e H' => in1 (.int .i64) e noPan (fun r0 => k r0 H')

def darninglaw24_awake  (H : AH) (k : Bool → AH → Prop) : Prop :=
  LCalls Try.prog 27 [] H fun e H' => in1 .bool e noPan (fun r0 => k r0 H')

def darningref4_CostLines (x0 : List Value) (H : AH) (k : Int → AH → Prop) : Prop :=
  LCalls Try.prog 29 [(Value.agg (List.toArray x0))] H fun e H' => in1 (.int .i64) e noPan (fun r0 => k r0 H')

def darningref4_replaces (x0 : Int) (H : AH) (k : Bool → AH → Prop) : Prop :=
  LCalls Try.prog 48 [(Value.int .i64 x0)] H fun e H' => in1 .bool e noPan (fun r0 => k r0 H')

def darningref4_CostOp (x0 : List Value) (x1 : Int) (H : AH) (k : Int → AH → Prop) : Prop :=
  LCalls Try.prog 31 [(Value.agg (List.toArray x0)), (Value.int .i64 x1)] H fun e H' => in1 (.int .i64) e noPan (fun r0 => k r0 H')

def darningref4_CostRecover (x0 : Int) (H : AH) (k : Int → AH → Prop) : Prop :=
  LCalls Try.prog 33 [(Value.int .i64 x0)] H fun e H' => in1 (.int .i64) e noPan (fun r0 => k r0 H')

def darninglaw24_CostForms (x0 : List Value) (x1 : Int) (x2 : List Value) (H : AH) (k : Bool → AH → Prop) : Prop :=
  LCalls Try.prog 8 [(Value.agg (List.toArray x0)), (Value.int .i64 x1), (Value.agg (List.toArray x2))] H fun e H' => in1 .bool e noPan (fun r0 => k r0 H')

def darninglaw24_CostMore (x0 : Int) (x1 : Int) (x2 : Int) (H : AH) (k : Bool → AH → Prop) : Prop :=
  LCalls Try.prog 9 [(Value.int .i64 x0), (Value.int .i64 x1), (Value.int .i64 x2)] H fun e H' => in1 .bool e noPan (fun r0 => k r0 H')

def darninglaw19_Heavy (x0 : Sl) (H : AH) (k : Int → AH → Prop) : Prop :=
  LCalls Try.prog 35 [(Sl.val x0)] H fun e H' => in1 (.int .i64) e noPan (fun r0 => k r0 H')

def darningref4_mayWords (x0 : Int) (H : AH) (k : Bool → AH → Prop) : Prop :=
  LCalls Try.prog 49 [(Value.int .i64 x0)] H fun e H' => in1 .bool e noPan (fun r0 => k r0 H')

def darningref4_MaySize (x0 : Int) (H : AH) (k : Bool → AH → Prop) : Prop :=
  LCalls Try.prog 62 [(Value.int .i64 x0)] H fun e H' => in1 .bool e noPan (fun r0 => k r0 H')

def darningref4_Word (x0 : Int) (x1 : Bool) (H : AH) (k : Int → AH → Prop) : Prop :=
  LCalls Try.prog 50 [(Value.int .i64 x0), (Value.bool x1)] H fun e H' => in1 (.int .u64) e noPan (fun r0 => k r0 H')

def darningref4_First (x0 : Int) (H : AH) (k : Sl → AH → Prop) : Prop :=
  LCalls Try.prog 36 [(Value.int .i64 x0)] H fun e H' => in1 .sl e noPan (fun r0 => k r0 H')

def darningref4_Need (x0 : Int) (H : AH) (k : Int → AH → Prop) : Prop :=
  LCalls Try.prog 51 [(Value.int .i64 x0)] H fun e H' => in1 (.int .i64) e noPan (fun r0 => k r0 H')

def darningref4_ParseWord (x0 : Int) (H : AH) (k : Int → Bool → Bool → AH → Prop) : Prop :=
  LCalls Try.prog 63 [(Value.int .u64 x0)] H fun e H' => in3 (.int .i64) .bool .bool e noPan (fun r0 r1 r2 => k r0 r1 r2 H')

def darningref4_MayBlocks (x0 : Sl) (x1 : Int) (H : AH) (k : Bool → AH → Prop) : Prop :=
  LCalls Try.prog 64 [(Sl.val x0), (Value.int .i64 x1)] H fun e H' => in1 .bool e noPan (fun r0 => k r0 H')

def darningref4_Blocks (x0 : Sl) (H : AH) (k : Sl → Bool → AH → Prop) : Prop :=
  LCalls Try.prog 52 [(Sl.val x0)] H fun e H' => in2 .sl .bool e noPan (fun r0 r1 => k r0 r1 H')

def darningref4_Fits (x0 : Sl) (x1 : Int) (H : AH) (k : Sl → AH → Prop) : Prop :=
  LCalls Try.prog 65 [(Sl.val x0), (Value.int .i64 x1)] H fun e H' => in1 .sl e noPan (fun r0 => k r0 H')

def darningref4_countAt (x0 : Int) (x1 : Sl) (H : AH) (k : Int → AH → Prop) : Prop :=
  LCalls Try.prog 66 [(Value.int .i64 x0), (Sl.val x1)] H fun e H' => in1 (.int .i64) e noPan (fun r0 => k r0 H')

def darningref4_Choose (x0 : Sl) (x1 : Int) (x2 : Sl) (H : AH) (k : Int → AH → Prop) : Prop :=
  LCalls Try.prog 53 [(Sl.val x0), (Value.int .i64 x1), (Sl.val x2)] H fun e H' => in1 (.int .i64) e noPan (fun r0 => k r0 H')

def darningref4_sizes (x0 : Sl) (H : AH) (k : Int → AH → Prop) : Prop :=
  LCalls Try.prog 69 [(Sl.val x0)] H fun e H' => in1 (.int .i64) e noPan (fun r0 => k r0 H')

def darningref4_Takes (x0 : Int) (x1 : Int) (H : AH) (k : Int → AH → Prop) : Prop :=
  LCalls Try.prog 68 [(Value.int .i64 x0), (Value.int .i64 x1)] H fun e H' => in1 (.int .i64) e noPan (fun r0 => k r0 H')

def darningref4_Carved (x0 : Sl) (x1 : Int) (x2 : Int) (H : AH) (k : Sl → Bool → AH → Prop) : Prop :=
  LCalls Try.prog 67 [(Sl.val x0), (Value.int .i64 x1), (Value.int .i64 x2)] H fun e H' => in2 .sl .bool e noPan (fun r0 r1 => k r0 r1 H')

def darningref4_CarveEdits (x0 : Sl) (x1 : Int) (x2 : Int) (H : AH) (k : Sl → AH → Prop) : Prop :=
  LCalls Try.prog 54 [(Sl.val x0), (Value.int .i64 x1), (Value.int .i64 x2)] H fun e H' => in1 .sl e noPan (fun r0 => k r0 H')

def darningref4_Off (x0 : List Value) (H : AH) (k : Int → AH → Prop) : Prop :=
  LCalls Try.prog 55 [(Value.agg (List.toArray x0))] H fun e H' => in1 (.int .i64) e noPan (fun r0 => k r0 H')

def darningref4_ImageAlloc (x0 : Sl) (x1 : Int) (x2 : Sl) (H : AH) (k : Sl → Int → Int → AH → Prop) : Prop :=
  LCalls Try.prog 37 [(Sl.val x0), (Value.int .i64 x1), (Sl.val x2)] H fun e H' => in3 .sl (.int .i64) (.int .i64) e noPan (fun r0 r1 r2 => k r0 r1 r2 H')

def darningref4_Is (x0 : Sl) (x1 : Int) (H : AH) (k : Int → AH → Prop) : Prop :=
  LCalls Try.prog 57 [(Sl.val x0), (Value.int .i64 x1)] H fun e H' => in1 (.int .i64) e noPan (fun r0 => k r0 H')

def darningref4_Merged (x0 : Sl) (x1 : Int) (H : AH) (k : Sl → Int → Bool → AH → Prop) : Prop :=
  LCalls Try.prog 56 [(Sl.val x0), (Value.int .i64 x1)] H fun e H' => in3 .sl (.int .i64) .bool e noPan (fun r0 r1 r2 => k r0 r1 r2 H')

def darningref4_ImageFree (x0 : Sl) (x1 : Int) (H : AH) (k : Sl → Int → AH → Prop) : Prop :=
  LCalls Try.prog 38 [(Sl.val x0), (Value.int .i64 x1)] H fun e H' => in2 .sl (.int .i64) e noPan (fun r0 r1 => k r0 r1 H')

def darningref4_Within (x0 : Sl) (x1 : Int) (x2 : Int) (H : AH) (k : Bool → AH → Prop) : Prop :=
  LCalls Try.prog 58 [(Sl.val x0), (Value.int .i64 x1), (Value.int .i64 x2)] H fun e H' => in1 .bool e noPan (fun r0 => k r0 H')

def darningref4_inside (x0 : Int) (x1 : Int) (x2 : Int) (H : AH) (k : Bool → AH → Prop) : Prop :=
  LCalls Try.prog 70 [(Value.int .i64 x0), (Value.int .i64 x1), (Value.int .i64 x2)] H fun e H' => in1 .bool e noPan (fun r0 => k r0 H')

def darningref4_ByteEdits (x0 : Sl) (x1 : Int) (x2 : Sl) (H : AH) (k : Sl → Bool → AH → Prop) : Prop :=
  LCalls Try.prog 59 [(Sl.val x0), (Value.int .i64 x1), (Sl.val x2)] H fun e H' => in2 .sl .bool e noPan (fun r0 r1 => k r0 r1 H')

def darningref4_ImageWrite (x0 : Sl) (x1 : Int) (x2 : Sl) (H : AH) (k : Sl → Int → AH → Prop) : Prop :=
  LCalls Try.prog 39 [(Sl.val x0), (Value.int .i64 x1), (Sl.val x2)] H fun e H' => in2 .sl (.int .i64) e noPan (fun r0 r1 => k r0 r1 H')

def darningref4_EditLines (x0 : Sl) (H : AH) (k : Sl → AH → Prop) : Prop :=
  LCalls Try.prog 40 [(Sl.val x0)] H fun e H' => in1 .sl e noPan (fun r0 => k r0 H')

def darningref4_Apply (x0 : Sl) (x1 : Sl) (H : AH) (k : Sl → AH → Prop) : Prop :=
  LCalls Try.prog 41 [(Sl.val x0), (Sl.val x1)] H fun e H' => in1 .sl e noPan (fun r0 => k r0 H')

def darninglaw24_CostHomes (x0 : Int) (x1 : Sl) (x2 : Int) (x3 : Sl) (H : AH) (k : Bool → AH → Prop) : Prop :=
  LCalls Try.prog 10 [(Value.int .i64 x0), (Sl.val x1), (Value.int .i64 x2), (Sl.val x3)] H fun e H' => in1 .bool e noPan (fun r0 => k r0 H')

def darninglaw24_CostKinds (x0 : Int) (x1 : Int) (x2 : Int) (H : AH) (k : Bool → AH → Prop) : Prop :=
  LCalls Try.prog 11 [(Value.int .i64 x0), (Value.int .i64 x1), (Value.int .i64 x2)] H fun e H' => in1 .bool e noPan (fun r0 => k r0 H')

def slices_Clone_uint64uint64 (x0 : Sl) (H : AH) (k : Sl → AH → Prop) : Prop :=
  LCalls Try.prog 61 [(Sl.val x0)] H fun e H' => in1 .sl e noPan (fun r0 => k r0 H')

def span_Apply (x0 : Sl) (x1 : Sl) (H : AH) (k : Sl → AH → Prop) : Prop :=
  LCalls Try.prog 43 [(Sl.val x0), (Sl.val x1)] H fun e H' => in1 .sl e noPan (fun r0 => k r0 H')

def darninglaw18_SpanBack (x0 : Sl) (x1 : Int) (x2 : Sl) (x3 : Int) (H : AH) (k : Bool → AH → Prop) : Prop :=
  LCalls Try.prog 12 [(Sl.val x0), (Value.int .i64 x1), (Sl.val x2), (Value.int .i64 x3)] H fun e H' => in1 .bool e noPan (fun r0 => k r0 H')

def darningref4_SameWords (x0 : Sl) (x1 : Sl) (H : AH) (k : Bool → AH → Prop) : Prop :=
  LCalls Try.prog 45 [(Sl.val x0), (Sl.val x1)] H fun e H' => in1 .bool e noPan (fun r0 => k r0 H')

def darninglaw18_SpanTwice (x0 : Sl) (x1 : Int) (x2 : Sl) (x3 : Int) (H : AH) (k : Bool → AH → Prop) : Prop :=
  LCalls Try.prog 13 [(Sl.val x0), (Value.int .i64 x1), (Sl.val x2), (Value.int .i64 x3)] H fun e H' => in1 .bool e noPan (fun r0 => k r0 H')

def darningref4_MayPlan.b (x0 : List Value) (H : AH) (k : Bool → AH → Prop) : Prop :=
  newC H ⟨x0, .rw, 0⟩ fun o1 H1 => elI .i64 (AH.cell? H1 (Addr.add ⟨o1, 0, none⟩ 0)) fun n4 => bcase (decide ((n4 : Int) ≥ (1 : Int))) (elI .i64 (AH.cell? H1 (Addr.add ⟨o1, 0, none⟩ 0)) fun n8 => bcase (decide ((n8 : Int) ≤ (64 : Int))) (elI .i64 (AH.cell? H1 (Addr.add ⟨o1, 0, none⟩ 1)) fun n13 => bcase (decide ((n13 : Int) ≥ (0 : Int))) (elI .i64 (AH.cell? H1 (Addr.add ⟨o1, 0, none⟩ 1)) fun n18 => bcase (decide ((n18 : Int) ≤ (16 : Int))) (elI .i64 (AH.cell? H1 (Addr.add ⟨o1, 0, none⟩ 2)) fun n23 => bcase (decide ((n23 : Int) ≥ (1 : Int))) (elI .i64 (AH.cell? H1 (Addr.add ⟨o1, 0, none⟩ 2)) fun n28 => bcase (decide ((n28 : Int) ≤ (1000 : Int))) (elI .i64 (AH.cell? H1 (Addr.add ⟨o1, 0, none⟩ 3)) fun n33 => bcase (decide ((n33 : Int) ≥ (1 : Int))) (elI .i64 (AH.cell? H1 (Addr.add ⟨o1, 0, none⟩ 3)) fun n38 => k (decide ((n38 : Int) ≤ (100 : Int))) H1) (k false H1)) (k false H1)) (k false H1)) (k false H1)) (k false H1)) (k false H1)) (k false H1)
def darningref4_MayPlan.ann : Ann := { keep := fun r => match r with  | _ => [], ord := fun r => match r with  | _ => [] }
theorem darningref4_MayPlan.link {x0 : List Value} {H : AH} {k : Bool → AH → Prop} (h : darningref4_MayPlan.b x0 H k) : darningref4_MayPlan x0 H k := by
  have e : wpC Try.prog T pan Try.f14.ntmps darningref4_MayPlan.ann (Try.f14.body.getD .skip) (argFr [(Value.agg (List.toArray x0))]) H (bodyK T Try.f14.results.toList fun e H' => out1 .bool e noPan (fun r0 => k r0 H')) = darningref4_MayPlan.b x0 H k := by kernel_rfl
  have h1 : LCalls Try.prog 14 [(Value.agg (List.toArray x0))] H (fun e H' => out1 .bool e noPan (fun r0 => k r0 H')) := lcalls_of hT hm Try.func14 (by kernel_rfl) darningref4_MayPlan.ann (Nat.le_of_ble_eq_true (by kernel_rfl)) (e.mpr h)
  exact h1.mono fun _ _ hq => out1_in (fun h => by cases h) hq

def plan_May.b (x0 : List Value) (H : AH) (k : Bool → AH → Prop) : Prop :=
  newC H ⟨x0, .rw, 0⟩ fun o1 H1 => elI .i64 (AH.cell? H1 (Addr.add ⟨o1, 0, none⟩ 0)) fun n4 => bcase (decide ((n4 : Int) ≥ (1 : Int))) (elI .i64 (AH.cell? H1 (Addr.add ⟨o1, 0, none⟩ 0)) fun n8 => bcase (decide ((n8 : Int) ≤ (64 : Int))) (elI .i64 (AH.cell? H1 (Addr.add ⟨o1, 0, none⟩ 1)) fun n13 => bcase (decide ((n13 : Int) ≥ (0 : Int))) (elI .i64 (AH.cell? H1 (Addr.add ⟨o1, 0, none⟩ 1)) fun n18 => bcase (decide ((n18 : Int) ≤ (16 : Int))) (elI .i64 (AH.cell? H1 (Addr.add ⟨o1, 0, none⟩ 2)) fun n23 => bcase (decide ((n23 : Int) ≥ (1 : Int))) (elI .i64 (AH.cell? H1 (Addr.add ⟨o1, 0, none⟩ 2)) fun n28 => bcase (decide ((n28 : Int) ≤ (1000 : Int))) (elI .i64 (AH.cell? H1 (Addr.add ⟨o1, 0, none⟩ 3)) fun n33 => bcase (decide ((n33 : Int) ≥ (1 : Int))) (elI .i64 (AH.cell? H1 (Addr.add ⟨o1, 0, none⟩ 3)) fun n38 => k (decide ((n38 : Int) ≤ (100 : Int))) H1) (k false H1)) (k false H1)) (k false H1)) (k false H1)) (k false H1)) (k false H1)) (k false H1)
def plan_May.ann : Ann := { keep := fun r => match r with  | _ => [], ord := fun r => match r with  | _ => [] }
theorem plan_May.link {x0 : List Value} {H : AH} {k : Bool → AH → Prop} (h : plan_May.b x0 H k) : plan_May x0 H k := by
  have e : wpC Try.prog T pan Try.f15.ntmps plan_May.ann (Try.f15.body.getD .skip) (argFr [(Value.agg (List.toArray x0))]) H (bodyK T Try.f15.results.toList fun e H' => out1 .bool e noPan (fun r0 => k r0 H')) = plan_May.b x0 H k := by kernel_rfl
  have h1 : LCalls Try.prog 15 [(Value.agg (List.toArray x0))] H (fun e H' => out1 .bool e noPan (fun r0 => k r0 H')) := lcalls_of hT hm Try.func15 (by kernel_rfl) plan_May.ann (Nat.le_of_ble_eq_true (by kernel_rfl)) (e.mpr h)
  exact h1.mono fun _ _ hq => out1_in (fun h => by cases h) hq

def plan_Words.b (x0 : List Value) (H : AH) (k : Int → AH → Prop) : Prop :=
  newC H ⟨x0, .rw, 0⟩ fun o1 H1 => ldA H1 ⟨o1, 0, none⟩ 4 fun c3 => plan_May c3 H1 fun b4 H4 => bcase (!b4) (k (0 : Int) H4) (elI .i64 (AH.cell? H4 (Addr.add ⟨o1, 0, none⟩ 0)) fun n7 => k (IntKind.wrap .i64 (n7 * (8 : Int))) H4)
def plan_Words.ann : Ann := { keep := fun r => match r with  | _ => [], ord := fun r => match r with  | _ => [] }
theorem plan_Words.link {x0 : List Value} {H : AH} {k : Int → AH → Prop} (h : plan_Words.b x0 H k) : plan_Words x0 H k := by
  have e : wpC Try.prog T pan Try.f16.ntmps plan_Words.ann (Try.f16.body.getD .skip) (argFr [(Value.agg (List.toArray x0))]) H (bodyK T Try.f16.results.toList fun e H' => out1 (.int .i64) e noPan (fun r0 => k r0 H')) = plan_Words.b x0 H k := by kernel_rfl
  have h1 : LCalls Try.prog 16 [(Value.agg (List.toArray x0))] H (fun e H' => out1 (.int .i64) e noPan (fun r0 => k r0 H')) := lcalls_of hT hm Try.func16 (by kernel_rfl) plan_Words.ann (Nat.le_of_ble_eq_true (by kernel_rfl)) (e.mpr h)
  exact h1.mono fun _ _ hq => out1_in (fun h => by cases h) hq

def count_Page.b (x0 : Int) (H : AH) (k : Int → AH → Prop) : Prop :=
  ((4 : Int) : Int) ≠ 0 ∧ k (IntKind.wrap .i64 (Int.tdiv (if (0 : Int) > x0 then (0 : Int) else x0) (4 : Int))) H
def count_Page.ann : Ann := { keep := fun r => match r with  | _ => [], ord := fun r => match r with  | _ => [] }
theorem count_Page.link {x0 : Int} {H : AH} {k : Int → AH → Prop} (h : count_Page.b x0 H k) : count_Page x0 H k := by
  have e : wpC Try.prog T pan Try.f24.ntmps count_Page.ann (Try.f24.body.getD .skip) (argFr [(Value.int .i64 x0)]) H (bodyK T Try.f24.results.toList fun e H' => out1 (.int .i64) e noPan (fun r0 => k r0 H')) = count_Page.b x0 H k := by kernel_rfl
  have h1 : LCalls Try.prog 24 [(Value.int .i64 x0)] H (fun e H' => out1 (.int .i64) e noPan (fun r0 => k r0 H')) := lcalls_of hT hm Try.func24 (by kernel_rfl) count_Page.ann (Nat.le_of_ble_eq_true (by kernel_rfl)) (e.mpr h)
  exact h1.mono fun _ _ hq => out1_in (fun h => by cases h) hq

def plan_Pages.b (x0 : List Value) (H : AH) (k : Int → AH → Prop) : Prop :=
  newC H ⟨x0, .rw, 0⟩ fun o1 H1 => ldA H1 ⟨o1, 0, none⟩ 4 fun c3 => plan_May c3 H1 fun b4 H4 => bcase (!b4) (k (0 : Int) H4) (elI .i64 (AH.cell? H4 (Addr.add ⟨o1, 0, none⟩ 0)) fun n7 => count_Page (IntKind.wrap .i64 (n7 - (1 : Int))) H4 fun n9 H9 => k (IntKind.wrap .i64 (n9 + (1 : Int))) H9)
def plan_Pages.ann : Ann := { keep := fun r => match r with  | _ => [], ord := fun r => match r with  | _ => [] }
theorem plan_Pages.link {x0 : List Value} {H : AH} {k : Int → AH → Prop} (h : plan_Pages.b x0 H k) : plan_Pages x0 H k := by
  have e : wpC Try.prog T pan Try.f17.ntmps plan_Pages.ann (Try.f17.body.getD .skip) (argFr [(Value.agg (List.toArray x0))]) H (bodyK T Try.f17.results.toList fun e H' => out1 (.int .i64) e noPan (fun r0 => k r0 H')) = plan_Pages.b x0 H k := by kernel_rfl
  have h1 : LCalls Try.prog 17 [(Value.agg (List.toArray x0))] H (fun e H' => out1 (.int .i64) e noPan (fun r0 => k r0 H')) := lcalls_of hT hm Try.func17 (by kernel_rfl) plan_Pages.ann (Nat.le_of_ble_eq_true (by kernel_rfl)) (e.mpr h)
  exact h1.mono fun _ _ hq => out1_in (fun h => by cases h) hq

def darningref4_Pages.b (x0 : List Value) (H : AH) (k : Int → AH → Prop) : Prop :=
  newC H ⟨x0, .rw, 0⟩ fun o1 H1 => ldA H1 ⟨o1, 0, none⟩ 4 fun c3 => darningref4_MayPlan c3 H1 fun b4 H4 => bcase (!b4) (k (0 : Int) H4) (elI .i64 (AH.cell? H4 (Addr.add ⟨o1, 0, none⟩ 0)) fun n7 => ((4 : Int) : Int) ≠ 0 ∧ k (IntKind.wrap .i64 (Int.tdiv (IntKind.wrap .i64 ((IntKind.wrap .i64 (n7 + (4 : Int))) - (1 : Int))) (4 : Int))) H4)
def darningref4_Pages.ann : Ann := { keep := fun r => match r with  | _ => [], ord := fun r => match r with  | _ => [] }
theorem darningref4_Pages.link {x0 : List Value} {H : AH} {k : Int → AH → Prop} (h : darningref4_Pages.b x0 H k) : darningref4_Pages x0 H k := by
  have e : wpC Try.prog T pan Try.f18.ntmps darningref4_Pages.ann (Try.f18.body.getD .skip) (argFr [(Value.agg (List.toArray x0))]) H (bodyK T Try.f18.results.toList fun e H' => out1 (.int .i64) e noPan (fun r0 => k r0 H')) = darningref4_Pages.b x0 H k := by kernel_rfl
  have h1 : LCalls Try.prog 18 [(Value.agg (List.toArray x0))] H (fun e H' => out1 (.int .i64) e noPan (fun r0 => k r0 H')) := lcalls_of hT hm Try.func18 (by kernel_rfl) darningref4_Pages.ann (Nat.le_of_ble_eq_true (by kernel_rfl)) (e.mpr h)
  exact h1.mono fun _ _ hq => out1_in (fun h => by cases h) hq

def plan_Logical.b (x0 : List Value) (H : AH) (k : Int → AH → Prop) : Prop :=
  newC H ⟨x0, .rw, 0⟩ fun o1 H1 => ldA H1 ⟨o1, 0, none⟩ 4 fun c3 => plan_May c3 H1 fun b4 H4 => bcase (!b4) (k (0 : Int) H4) (elI .i64 (AH.cell? H4 (Addr.add ⟨o1, 0, none⟩ 0)) fun n7 => k (IntKind.wrap .i64 ((16 : Int) + n7)) H4)
def plan_Logical.ann : Ann := { keep := fun r => match r with  | _ => [], ord := fun r => match r with  | _ => [] }
theorem plan_Logical.link {x0 : List Value} {H : AH} {k : Int → AH → Prop} (h : plan_Logical.b x0 H k) : plan_Logical x0 H k := by
  have e : wpC Try.prog T pan Try.f19.ntmps plan_Logical.ann (Try.f19.body.getD .skip) (argFr [(Value.agg (List.toArray x0))]) H (bodyK T Try.f19.results.toList fun e H' => out1 (.int .i64) e noPan (fun r0 => k r0 H')) = plan_Logical.b x0 H k := by kernel_rfl
  have h1 : LCalls Try.prog 19 [(Value.agg (List.toArray x0))] H (fun e H' => out1 (.int .i64) e noPan (fun r0 => k r0 H')) := lcalls_of hT hm Try.func19 (by kernel_rfl) plan_Logical.ann (Nat.le_of_ble_eq_true (by kernel_rfl)) (e.mpr h)
  exact h1.mono fun _ _ hq => out1_in (fun h => by cases h) hq

def plan_Device.b (x0 : List Value) (H : AH) (k : Int → AH → Prop) : Prop :=
  newC H ⟨x0, .rw, 0⟩ fun o1 H1 => ldA H1 ⟨o1, 0, none⟩ 4 fun c3 => plan_May c3 H1 fun b4 H4 => bcase (!b4) (k (0 : Int) H4) (ldA H4 ⟨o1, 0, none⟩ 4 fun c6 => elI .i64 (AH.cell? H4 (Addr.add ⟨o1, 0, none⟩ 1)) fun n10 => plan_Logical c6 H4 fun n7 H7 => AH.cell? H7 (Addr.add ⟨o1, 0, none⟩ 1) = some (Value.int .i64 n10) ∧ k (IntKind.wrap .i64 ((IntKind.wrap .i64 (n7 + (1 : Int))) + n10)) H7)
def plan_Device.ann : Ann := { keep := fun r => match r with  | _ => [], ord := fun r => match r with | 3 => [0, 3, 4, 1, 2, 5, 6] | _ => [] }
theorem plan_Device.link {x0 : List Value} {H : AH} {k : Int → AH → Prop} (h : plan_Device.b x0 H k) : plan_Device x0 H k := by
  have e : wpC Try.prog T pan Try.f20.ntmps plan_Device.ann (Try.f20.body.getD .skip) (argFr [(Value.agg (List.toArray x0))]) H (bodyK T Try.f20.results.toList fun e H' => out1 (.int .i64) e noPan (fun r0 => k r0 H')) = plan_Device.b x0 H k := by kernel_rfl
  have h1 : LCalls Try.prog 20 [(Value.agg (List.toArray x0))] H (fun e H' => out1 (.int .i64) e noPan (fun r0 => k r0 H')) := lcalls_of hT hm Try.func20 (by kernel_rfl) plan_Device.ann (Nat.le_of_ble_eq_true (by kernel_rfl)) (e.mpr h)
  exact h1.mono fun _ _ hq => out1_in (fun h => by cases h) hq

def darningref4_Device.b (x0 : List Value) (H : AH) (k : Int → AH → Prop) : Prop :=
  newC H ⟨x0, .rw, 0⟩ fun o1 H1 => ldA H1 ⟨o1, 0, none⟩ 4 fun c3 => darningref4_MayPlan c3 H1 fun b4 H4 => bcase (!b4) (k (0 : Int) H4) (elI .i64 (AH.cell? H4 (Addr.add ⟨o1, 0, none⟩ 0)) fun n7 => elI .i64 (AH.cell? H4 (Addr.add ⟨o1, 0, none⟩ 1)) fun n11 => k (IntKind.wrap .i64 ((IntKind.wrap .i64 ((IntKind.wrap .i64 ((16 : Int) + n7)) + (1 : Int))) + n11)) H4)
def darningref4_Device.ann : Ann := { keep := fun r => match r with  | _ => [], ord := fun r => match r with  | _ => [] }
theorem darningref4_Device.link {x0 : List Value} {H : AH} {k : Int → AH → Prop} (h : darningref4_Device.b x0 H k) : darningref4_Device x0 H k := by
  have e : wpC Try.prog T pan Try.f21.ntmps darningref4_Device.ann (Try.f21.body.getD .skip) (argFr [(Value.agg (List.toArray x0))]) H (bodyK T Try.f21.results.toList fun e H' => out1 (.int .i64) e noPan (fun r0 => k r0 H')) = darningref4_Device.b x0 H k := by kernel_rfl
  have h1 : LCalls Try.prog 21 [(Value.agg (List.toArray x0))] H (fun e H' => out1 (.int .i64) e noPan (fun r0 => k r0 H')) := lcalls_of hT hm Try.func21 (by kernel_rfl) darningref4_Device.ann (Nat.le_of_ble_eq_true (by kernel_rfl)) (e.mpr h)
  exact h1.mono fun _ _ hq => out1_in (fun h => by cases h) hq

def plan_Home.b (x0 : List Value) (x1 : Int) (H : AH) (k : Int → AH → Prop) : Prop :=
  newC H ⟨x0, .rw, 0⟩ fun o2 H2 => ldA H2 ⟨o2, 0, none⟩ 4 fun c5 => plan_May c5 H2 fun b6 H6 => bcase (!b6) (k (-1 : Int) H6) (bcase (decide ((x1 : Int) < (0 : Int))) (k (-1 : Int) H6) (elI .i64 (AH.cell? H6 (Addr.add ⟨o2, 0, none⟩ 0)) fun n15 => bcase (decide ((x1 : Int) ≥ n15)) (k (-1 : Int) H6) (k (IntKind.wrap .i64 ((16 : Int) + x1)) H6)))
def plan_Home.ann : Ann := { keep := fun r => match r with  | _ => [], ord := fun r => match r with  | _ => [] }
theorem plan_Home.link {x0 : List Value} {x1 : Int} {H : AH} {k : Int → AH → Prop} (h : plan_Home.b x0 x1 H k) : plan_Home x0 x1 H k := by
  have e : wpC Try.prog T pan Try.f22.ntmps plan_Home.ann (Try.f22.body.getD .skip) (argFr [(Value.agg (List.toArray x0)), (Value.int .i64 x1)]) H (bodyK T Try.f22.results.toList fun e H' => out1 (.int .i64) e noPan (fun r0 => k r0 H')) = plan_Home.b x0 x1 H k := by kernel_rfl
  have h1 : LCalls Try.prog 22 [(Value.agg (List.toArray x0)), (Value.int .i64 x1)] H (fun e H' => out1 (.int .i64) e noPan (fun r0 => k r0 H')) := lcalls_of hT hm Try.func22 (by kernel_rfl) plan_Home.ann (Nat.le_of_ble_eq_true (by kernel_rfl)) (e.mpr h)
  exact h1.mono fun _ _ hq => out1_in (fun h => by cases h) hq

def darninglaw11_awake.b (H : AH) (k : Bool → AH → Prop) : Prop :=
  newC H ⟨[(Value.int .i64 (0 : Int)), (Value.int .i64 (0 : Int)), (Value.int .i64 (0 : Int)), (Value.int .i64 (0 : Int))], .rw, 0⟩ fun o1 H1 => (List.length [(Value.int .i64 (4 : Int)), (Value.int .i64 (2 : Int)), (Value.int .i64 (1 : Int)), (Value.int .i64 (1 : Int))] = 4 ∧ List.all [(Value.int .i64 (4 : Int)), (Value.int .i64 (2 : Int)), (Value.int .i64 (1 : Int)), (Value.int .i64 (1 : Int))] cellOK = true) ∧ stC H1 ⟨o1, 0, none⟩ [(Value.int .i64 (4 : Int)), (Value.int .i64 (2 : Int)), (Value.int .i64 (1 : Int)), (Value.int .i64 (1 : Int))] fun Hs2 => ldA Hs2 ⟨o1, 0, none⟩ 4 fun c3 => plan_May c3 Hs2 fun b4 H4 => bcase b4 (ldA H4 ⟨o1, 0, none⟩ 4 fun c6 => plan_Words c6 H4 fun n7 H7 => bcase ((n7 : Int) == (32 : Int)) (ldA H7 ⟨o1, 0, none⟩ 4 fun c11 => plan_Pages c11 H7 fun n12 H12 => bcase ((n12 : Int) == (1 : Int)) (ldA H12 ⟨o1, 0, none⟩ 4 fun c16 => plan_Logical c16 H12 fun n17 H17 => bcase ((n17 : Int) == (20 : Int)) (ldA H17 ⟨o1, 0, none⟩ 4 fun c21 => plan_Device c21 H17 fun n22 H22 => bcase ((n22 : Int) == (23 : Int)) (ldA H22 ⟨o1, 0, none⟩ 4 fun c26 => plan_Home c26 (3 : Int) H22 fun n27 H27 => bcase ((n27 : Int) == (19 : Int)) (ldA H27 ⟨o1, 0, none⟩ 4 fun c31 => plan_Home c31 (4 : Int) H27 fun n32 H32 => k ((n32 : Int) == (-1 : Int)) H32) (k false H27)) (k false H22)) (k false H17)) (k false H12)) (k false H7)) (k false H4)
def darninglaw11_awake.ann : Ann := { keep := fun r => match r with  | _ => [], ord := fun r => match r with  | _ => [] }
theorem darninglaw11_awake.link {_u : Unit} {H : AH} {k : Bool → AH → Prop} (h : darninglaw11_awake.b  H k) : darninglaw11_awake  H k := by
  have e : wpC Try.prog T pan Try.f23.ntmps darninglaw11_awake.ann (Try.f23.body.getD .skip) (argFr []) H (bodyK T Try.f23.results.toList fun e H' => out1 .bool e noPan (fun r0 => k r0 H')) = darninglaw11_awake.b  H k := by kernel_rfl
  have h1 : LCalls Try.prog 23 [] H (fun e H' => out1 .bool e noPan (fun r0 => k r0 H')) := lcalls_of hT hm Try.func23 (by kernel_rfl) darninglaw11_awake.ann (Nat.le_of_ble_eq_true (by kernel_rfl)) (e.mpr h)
  exact h1.mono fun _ _ hq => out1_in (fun h => by cases h) hq

def darninglaw11_PlanForms.j1 (x1 : Int) (k : Bool → AH → Prop) (o2 : Nat) (H10 : AH) (b10 : Bool) (x6 : Int) (x7 : Int) (x8 : Int) : Prop :=
  ldA H10 ⟨o2, 0, none⟩ 4 fun c28 => plan_May c28 H10 fun b29 H29 => bcase (b29 == b10) (ldA H29 ⟨o2, 0, none⟩ 4 fun c33 => plan_Words c33 H29 fun n34 H34 => bcase ((n34 : Int) == x6) (ldA H34 ⟨o2, 0, none⟩ 4 fun c39 => ldA H34 ⟨o2, 0, none⟩ 4 fun c41 => plan_Pages c39 H34 fun n40 H40 => AH.row? H40 ⟨o2, 0, none⟩ 4 = some c41 ∧ darningref4_Pages c41 H40 fun n42 H42 => bcase ((n40 : Int) == n42) (ldA H42 ⟨o2, 0, none⟩ 4 fun c46 => plan_Logical c46 H42 fun n47 H47 => bcase ((n47 : Int) == x7) (ldA H47 ⟨o2, 0, none⟩ 4 fun c52 => ldA H47 ⟨o2, 0, none⟩ 4 fun c54 => plan_Device c52 H47 fun n53 H53 => AH.row? H53 ⟨o2, 0, none⟩ 4 = some c54 ∧ darningref4_Device c54 H53 fun n55 H55 => bcase ((n53 : Int) == n55) (ldA H55 ⟨o2, 0, none⟩ 4 fun c59 => plan_Home c59 x1 H55 fun n61 H61 => bcase ((n61 : Int) == x8) (darninglaw11_awake  H61 fun b66 H66 => k b66 H66) (k false H61)) (k false H55)) (k false H47)) (k false H42)) (k false H34)) (k false H29)
def darninglaw11_PlanForms.j2 (x1 : Int) (k : Bool → AH → Prop) (o2 : Nat) (H10 : AH) (b10 : Bool) (n13 : Int) (n16 : Int) (x8 : Int) : Prop :=
  darninglaw11_PlanForms.j1 x1 k o2 H10 b10 (IntKind.wrap .i64 (n13 * (8 : Int))) (IntKind.wrap .i64 ((16 : Int) + n16)) x8
def darninglaw11_PlanForms.j3 (x1 : Int) (k : Bool → AH → Prop) (o2 : Nat) (H10 : AH) (b10 : Bool) (n13 : Int) (n16 : Int) (x25 : Bool) : Prop :=
  bcase x25 (darninglaw11_PlanForms.j2 x1 k o2 H10 b10 n13 n16 (IntKind.wrap .i64 ((16 : Int) + x1))) (darninglaw11_PlanForms.j2 x1 k o2 H10 b10 n13 n16 (-1 : Int))
def darninglaw11_PlanForms.b (x0 : List Value) (x1 : Int) (H : AH) (k : Bool → AH → Prop) : Prop :=
  newC H ⟨x0, .rw, 0⟩ fun o2 H2 => ldA H2 ⟨o2, 0, none⟩ 4 fun c9 => darningref4_MayPlan c9 H2 fun b10 H10 => bcase b10 (elI .i64 (AH.cell? H10 (Addr.add ⟨o2, 0, none⟩ 0)) fun n13 => elI .i64 (AH.cell? H10 (Addr.add ⟨o2, 0, none⟩ 0)) fun n16 => bcase (decide ((x1 : Int) ≥ (0 : Int))) (elI .i64 (AH.cell? H10 (Addr.add ⟨o2, 0, none⟩ 0)) fun n23 => darninglaw11_PlanForms.j3 x1 k o2 H10 b10 n13 n16 (decide ((x1 : Int) < n23))) (darninglaw11_PlanForms.j3 x1 k o2 H10 b10 n13 n16 false)) (darninglaw11_PlanForms.j1 x1 k o2 H10 b10 (0 : Int) (0 : Int) (-1 : Int))
def darninglaw11_PlanForms.ann : Ann := { keep := fun r => match r with  | _ => [], ord := fun r => match r with | 4 => [0, 1, 2, 3, 4, 5, 6, 7] | 7 => [0, 2, 1, 3, 4, 5, 7, 6, 8, 9, 10, 11, 13, 12, 14, 15, 16, 17, 18, 20, 19, 21, 22, 23, 24, 26, 25, 27, 28, 29, 30, 31, 32, 34, 33, 35, 36, 37, 38, 39, 40] | _ => [] }
theorem darninglaw11_PlanForms.link {x0 : List Value} {x1 : Int} {H : AH} {k : Bool → AH → Prop} (h : darninglaw11_PlanForms.b x0 x1 H k) : darninglaw11_PlanForms x0 x1 H k := by
  have e : wpC Try.prog T pan Try.f3.ntmps darninglaw11_PlanForms.ann (Try.f3.body.getD .skip) (argFr [(Value.agg (List.toArray x0)), (Value.int .i64 x1)]) H (bodyK T Try.f3.results.toList fun e H' => out1 .bool e noPan (fun r0 => k r0 H')) = darninglaw11_PlanForms.b x0 x1 H k := by kernel_rfl
  have h1 : LCalls Try.prog 3 [(Value.agg (List.toArray x0)), (Value.int .i64 x1)] H (fun e H' => out1 .bool e noPan (fun r0 => k r0 H')) := lcalls_of hT hm Try.func3 (by kernel_rfl) darninglaw11_PlanForms.ann (Nat.le_of_ble_eq_true (by kernel_rfl)) (e.mpr h)
  exact h1.mono fun _ _ hq => out1_in (fun h => by cases h) hq

def darninglaw11_PlanHomes.j1 (x1 : Int) (x2 : Int) (k : Bool → AH → Prop) (o3 : Nat) (x16 : Bool) (Hj : AH) : Prop :=
  bcase x16 (ldA Hj ⟨o3, 0, none⟩ 4 fun c17 => ldA Hj ⟨o3, 0, none⟩ 4 fun c19 => plan_May c17 Hj fun b18 H18 => AH.row? H18 ⟨o3, 0, none⟩ 4 = some c19 ∧ darningref4_MayPlan c19 H18 fun b20 H20 => bcase (b18 == b20) (ldA H20 ⟨o3, 0, none⟩ 4 fun c23 => plan_Device c23 H20 fun n24 H24 => bcase ((n24 : Int) == (0 : Int)) (ldA H24 ⟨o3, 0, none⟩ 4 fun c28 => plan_Words c28 H24 fun n29 H29 => bcase ((n29 : Int) == (0 : Int)) (darninglaw11_awake  H29 fun b33 H33 => k b33 H33) (k false H29)) (k false H24)) (k false H20)) (elI .i64 (AH.cell? Hj (Addr.add ⟨o3, 0, none⟩ 0)) fun n38 => ((IntKind.wrap .u64 n38) : Int) ≠ 0 ∧ elI .i64 (AH.cell? Hj (Addr.add ⟨o3, 0, none⟩ 0)) fun n45 => ((IntKind.wrap .u64 n45) : Int) ≠ 0 ∧ ldA Hj ⟨o3, 0, none⟩ 4 fun c49 => ldA Hj ⟨o3, 0, none⟩ 4 fun c52 => plan_Home c49 (IntKind.wrap .i64 (Int.tmod (IntKind.wrap .u64 x1) (IntKind.wrap .u64 n38))) Hj fun n51 H51 => AH.row? H51 ⟨o3, 0, none⟩ 4 = some c52 ∧ plan_Home c52 (IntKind.wrap .i64 (Int.tmod (IntKind.wrap .u64 x2) (IntKind.wrap .u64 n45))) H51 fun n54 H54 => bcase (((n51 : Int) == n54) == (((IntKind.wrap .i64 (Int.tmod (IntKind.wrap .u64 x1) (IntKind.wrap .u64 n38))) : Int) == (IntKind.wrap .i64 (Int.tmod (IntKind.wrap .u64 x2) (IntKind.wrap .u64 n45))))) (bcase (decide ((n51 : Int) ≥ (16 : Int))) (ldA H54 ⟨o3, 0, none⟩ 4 fun c68 => plan_Logical c68 H54 fun n69 H69 => bcase (decide ((n51 : Int) < n69)) (ldA H69 ⟨o3, 0, none⟩ 4 fun c73 => ldA H69 ⟨o3, 0, none⟩ 4 fun c75 => elI .i64 (AH.cell? H69 (Addr.add ⟨o3, 0, none⟩ 1)) fun n79 => plan_Device c73 H69 fun n74 H74 => AH.cell? H74 (Addr.add ⟨o3, 0, none⟩ 1) = some (Value.int .i64 n79) ∧ AH.row? H74 ⟨o3, 0, none⟩ 4 = some c75 ∧ plan_Logical c75 H74 fun n76 H76 => AH.cell? H76 (Addr.add ⟨o3, 0, none⟩ 1) = some (Value.int .i64 n79) ∧ bcase ((n74 : Int) == (IntKind.wrap .i64 ((IntKind.wrap .i64 (n76 + (1 : Int))) + n79))) (ldA H76 ⟨o3, 0, none⟩ 4 fun c84 => elI .i64 (AH.cell? H76 (Addr.add ⟨o3, 0, none⟩ 0)) fun n87 => plan_Words c84 H76 fun n85 H85 => AH.cell? H85 (Addr.add ⟨o3, 0, none⟩ 0) = some (Value.int .i64 n87) ∧ bcase ((n85 : Int) == (IntKind.wrap .i64 ((8 : Int) * n87))) (ldA H85 ⟨o3, 0, none⟩ 4 fun c92 => plan_Pages c92 H85 fun n93 H93 => bcase (decide ((n93 : Int) ≤ (16 : Int))) (((4 : Int) : Int) ≠ 0 ∧ ldA H93 ⟨o3, 0, none⟩ 4 fun c99 => plan_Pages c99 H93 fun n100 H100 => bcase (decide (((IntKind.wrap .i64 (Int.tdiv (IntKind.wrap .i64 (Int.tmod (IntKind.wrap .u64 x1) (IntKind.wrap .u64 n38))) (4 : Int))) : Int) < n100)) (darninglaw11_awake  H100 fun b104 H104 => k b104 H104) (k false H100)) (k false H93)) (k false H85)) (k false H76)) (k false H69)) (k false H54)) (k false H54))
def darninglaw11_PlanHomes.b (x0 : List Value) (x1 : Int) (x2 : Int) (H : AH) (k : Bool → AH → Prop) : Prop :=
  newC H ⟨x0, .rw, 0⟩ fun o3 H3 => ldA H3 ⟨o3, 0, none⟩ 4 fun c9 => plan_May c9 H3 fun b10 H10 => bcase (!b10) (darninglaw11_PlanHomes.j1 x1 x2 k o3 true H10) (ldA H10 ⟨o3, 0, none⟩ 4 fun c13 => darningref4_MayPlan c13 H10 fun b14 H14 => darninglaw11_PlanHomes.j1 x1 x2 k o3 (!b14) H14)
def darninglaw11_PlanHomes.ann : Ann := { keep := fun r => match r with  | _ => [], ord := fun r => match r with | 2 => [0, 2, 1, 3, 4, 5, 6, 7, 8, 9, 10, 11, 12, 13, 14, 15, 16, 17, 18] | 3 => [0, 1, 2, 3, 4, 5, 6, 7, 8, 9, 10, 11, 12, 13, 14, 15] | 4 => [0, 1, 3, 4, 2, 5, 6, 7] | 5 => [0, 1, 2, 3, 4, 5, 6, 7, 8, 9, 10, 11, 12, 13, 14, 15, 16, 17, 18, 20, 23, 24, 19, 21, 22, 25, 26, 27, 28, 29, 31, 32, 33, 30, 34, 35, 36, 37, 38, 39, 40, 41, 42, 43, 44, 45, 46, 47, 48, 49, 50, 51] | _ => [] }
theorem darninglaw11_PlanHomes.link {x0 : List Value} {x1 : Int} {x2 : Int} {H : AH} {k : Bool → AH → Prop} (h : darninglaw11_PlanHomes.b x0 x1 x2 H k) : darninglaw11_PlanHomes x0 x1 x2 H k := by
  have e : wpC Try.prog T pan Try.f4.ntmps darninglaw11_PlanHomes.ann (Try.f4.body.getD .skip) (argFr [(Value.agg (List.toArray x0)), (Value.int .i64 x1), (Value.int .i64 x2)]) H (bodyK T Try.f4.results.toList fun e H' => out1 .bool e noPan (fun r0 => k r0 H')) = darninglaw11_PlanHomes.b x0 x1 x2 H k := by kernel_rfl
  have h1 : LCalls Try.prog 4 [(Value.agg (List.toArray x0)), (Value.int .i64 x1), (Value.int .i64 x2)] H (fun e H' => out1 .bool e noPan (fun r0 => k r0 H')) := lcalls_of hT hm Try.func4 (by kernel_rfl) darninglaw11_PlanHomes.ann (Nat.le_of_ble_eq_true (by kernel_rfl)) (e.mpr h)
  exact h1.mono fun _ _ hq => out1_in (fun h => by cases h) hq

def darninglaw11_PlanEdges.j1 (k : Bool → AH → Prop) (o5 : Nat) (x6 : Bool) (Hj : AH) : Prop :=
  ldA Hj ⟨o5, 0, none⟩ 4 fun c49 => plan_May c49 Hj fun b50 H50 => bcase (!(b50 == x6)) (k false H50) (bcase (!x6) (ldA H50 ⟨o5, 0, none⟩ 4 fun c55 => ldA H50 ⟨o5, 0, none⟩ 4 fun c57 => ldA H50 ⟨o5, 0, none⟩ 4 fun c60 => ldA H50 ⟨o5, 0, none⟩ 4 fun c63 => plan_Words c55 H50 fun n56 H56 => AH.row? H56 ⟨o5, 0, none⟩ 4 = some c63 ∧ AH.row? H56 ⟨o5, 0, none⟩ 4 = some c60 ∧ AH.row? H56 ⟨o5, 0, none⟩ 4 = some c57 ∧ plan_Pages c57 H56 fun n58 H58 => AH.row? H58 ⟨o5, 0, none⟩ 4 = some c63 ∧ AH.row? H58 ⟨o5, 0, none⟩ 4 = some c60 ∧ plan_Logical c60 H58 fun n61 H61 => AH.row? H61 ⟨o5, 0, none⟩ 4 = some c63 ∧ plan_Device c63 H61 fun n64 H64 => bcase (((IntKind.wrap .i64 ((IntKind.wrap .i64 ((IntKind.wrap .i64 (n56 + n58)) + n61)) + n64)) : Int) == (0 : Int)) (ldA H64 ⟨o5, 0, none⟩ 4 fun c68 => plan_Home c68 (0 : Int) H64 fun n69 H69 => bcase ((n69 : Int) == (-1 : Int)) (darninglaw11_awake  H69 fun b73 H73 => k b73 H73) (k false H69)) (k false H64)) (ldA H50 ⟨o5, 0, none⟩ 4 fun c75 => plan_Device c75 H50 fun n76 H76 => bcase (decide ((n76 : Int) ≤ (200 : Int))) (ldA H76 ⟨o5, 0, none⟩ 4 fun c79 => plan_Home c79 (0 : Int) H76 fun n80 H80 => bcase ((n80 : Int) == (16 : Int)) (ldA H80 ⟨o5, 0, none⟩ 4 fun c84 => elI .i64 (AH.cell? H80 (Addr.add ⟨o5, 0, none⟩ 0)) fun n86 => plan_Home c84 n86 H80 fun n87 H87 => bcase ((n87 : Int) == (-1 : Int)) (ldA H87 ⟨o5, 0, none⟩ 4 fun c91 => plan_Home c91 (-1 : Int) H87 fun n92 H92 => bcase ((n92 : Int) == (-1 : Int)) (elI .i64 (AH.cell? H92 (Addr.add ⟨o5, 0, none⟩ 0)) fun n97 => ldA H92 ⟨o5, 0, none⟩ 4 fun c100 => count_Page (IntKind.wrap .i64 (n97 - (1 : Int))) H92 fun n99 H99 => AH.row? H99 ⟨o5, 0, none⟩ 4 = some c100 ∧ plan_Pages c100 H99 fun n101 H101 => bcase ((n99 : Int) == (IntKind.wrap .i64 (n101 - (1 : Int)))) (darninglaw11_awake  H101 fun b106 H106 => k b106 H106) (k false H101)) (k false H92)) (k false H87)) (k false H80)) (k false H76)))
def darninglaw11_PlanEdges.b (x0 : Int) (x1 : Int) (H : AH) (k : Bool → AH → Prop) : Prop :=
  newC H ⟨[(Value.int .i64 (0 : Int)), (Value.int .i64 (0 : Int)), (Value.int .i64 (0 : Int)), (Value.int .i64 (0 : Int))], .rw, 0⟩ fun o5 H5 => (List.length [(Value.int .i64 (5 : Int)), (Value.int .i64 (3 : Int)), (Value.int .i64 (7 : Int)), (Value.int .i64 (2 : Int))] = 4 ∧ List.all [(Value.int .i64 (5 : Int)), (Value.int .i64 (3 : Int)), (Value.int .i64 (7 : Int)), (Value.int .i64 (2 : Int))] cellOK = true) ∧ stC H5 ⟨o5, 0, none⟩ [(Value.int .i64 (5 : Int)), (Value.int .i64 (3 : Int)), (Value.int .i64 (7 : Int)), (Value.int .i64 (2 : Int))] fun Hs2 => ((4 : Int) : Int) ≠ 0 ∧ bcase (((Int.tmod (IntKind.wrap .u64 x0) (4 : Int)) : Int) == (0 : Int)) (bcase (decide ((x1 : Int) ≥ (1 : Int))) (stC Hs2 (Addr.add ⟨o5, 0, none⟩ 0) [(Value.int .i64 x1)] fun Hs4 => darninglaw11_PlanEdges.j1 k o5 (decide ((x1 : Int) ≤ (64 : Int))) Hs4) (stC Hs2 (Addr.add ⟨o5, 0, none⟩ 0) [(Value.int .i64 x1)] fun Hs6 => darninglaw11_PlanEdges.j1 k o5 false Hs6)) (bcase (((Int.tmod (IntKind.wrap .u64 x0) (4 : Int)) : Int) == (1 : Int)) (bcase (decide ((x1 : Int) ≥ (0 : Int))) (stC Hs2 (Addr.add ⟨o5, 0, none⟩ 1) [(Value.int .i64 x1)] fun Hs8 => darninglaw11_PlanEdges.j1 k o5 (decide ((x1 : Int) ≤ (16 : Int))) Hs8) (stC Hs2 (Addr.add ⟨o5, 0, none⟩ 1) [(Value.int .i64 x1)] fun Hs10 => darninglaw11_PlanEdges.j1 k o5 false Hs10)) (bcase (((Int.tmod (IntKind.wrap .u64 x0) (4 : Int)) : Int) == (2 : Int)) (bcase (decide ((x1 : Int) ≥ (1 : Int))) (stC Hs2 (Addr.add ⟨o5, 0, none⟩ 2) [(Value.int .i64 x1)] fun Hs12 => darninglaw11_PlanEdges.j1 k o5 (decide ((x1 : Int) ≤ (1000 : Int))) Hs12) (stC Hs2 (Addr.add ⟨o5, 0, none⟩ 2) [(Value.int .i64 x1)] fun Hs14 => darninglaw11_PlanEdges.j1 k o5 false Hs14)) (bcase (decide ((x1 : Int) ≥ (1 : Int))) (stC Hs2 (Addr.add ⟨o5, 0, none⟩ 3) [(Value.int .i64 x1)] fun Hs16 => darninglaw11_PlanEdges.j1 k o5 (decide ((x1 : Int) ≤ (100 : Int))) Hs16) (stC Hs2 (Addr.add ⟨o5, 0, none⟩ 3) [(Value.int .i64 x1)] fun Hs18 => darninglaw11_PlanEdges.j1 k o5 false Hs18))))
def darninglaw11_PlanEdges.ann : Ann := { keep := fun r => match r with  | _ => [], ord := fun r => match r with | 14 => [0, 2, 5, 8, 1, 3, 4, 6, 7, 9, 10, 11, 12, 13, 14, 15, 16, 17, 18, 19, 20] | 15 => [0, 1, 2, 3, 4, 5, 6, 7, 8, 9, 10, 11, 12, 13, 14, 15, 16, 17, 18, 19, 20, 21, 22, 23, 25, 24, 26, 27, 28, 29, 30, 31, 32, 33] | _ => [] }
theorem darninglaw11_PlanEdges.link {x0 : Int} {x1 : Int} {H : AH} {k : Bool → AH → Prop} (h : darninglaw11_PlanEdges.b x0 x1 H k) : darninglaw11_PlanEdges x0 x1 H k := by
  have e : wpC Try.prog T pan Try.f5.ntmps darninglaw11_PlanEdges.ann (Try.f5.body.getD .skip) (argFr [(Value.int .i64 x0), (Value.int .i64 x1)]) H (bodyK T Try.f5.results.toList fun e H' => out1 .bool e noPan (fun r0 => k r0 H')) = darninglaw11_PlanEdges.b x0 x1 H k := by kernel_rfl
  have h1 : LCalls Try.prog 5 [(Value.int .i64 x0), (Value.int .i64 x1)] H (fun e H' => out1 .bool e noPan (fun r0 => k r0 H')) := lcalls_of hT hm Try.func5 (by kernel_rfl) darninglaw11_PlanEdges.ann (Nat.le_of_ble_eq_true (by kernel_rfl)) (e.mpr h)
  exact h1.mono fun _ _ hq => out1_in (fun h => by cases h) hq

def darninglaw11_PlanMore.b (x0 : Int) (x1 : Int) (x2 : Int) (x3 : Int) (H : AH) (k : Bool → AH → Prop) : Prop :=
  ((63 : Int) : Int) ≠ 0 ∧ ((16 : Int) : Int) ≠ 0 ∧ ((1000 : Int) : Int) ≠ 0 ∧ ((100 : Int) : Int) ≠ 0 ∧ newC H ⟨[(Value.int .i64 (0 : Int)), (Value.int .i64 (0 : Int)), (Value.int .i64 (0 : Int)), (Value.int .i64 (0 : Int))], .rw, 0⟩ fun o9 H9 => (List.length [(Value.int .i64 (IntKind.wrap .i64 ((1 : Int) + (IntKind.wrap .i64 (Int.tmod (IntKind.wrap .u64 x0) (63 : Int)))))), (Value.int .i64 (IntKind.wrap .i64 (Int.tmod (IntKind.wrap .u64 x1) (16 : Int)))), (Value.int .i64 (IntKind.wrap .i64 ((1 : Int) + (IntKind.wrap .i64 (Int.tmod (IntKind.wrap .u64 x2) (1000 : Int)))))), (Value.int .i64 (IntKind.wrap .i64 ((1 : Int) + (IntKind.wrap .i64 (Int.tmod (IntKind.wrap .u64 x3) (100 : Int))))))] = 4 ∧ List.all [(Value.int .i64 (IntKind.wrap .i64 ((1 : Int) + (IntKind.wrap .i64 (Int.tmod (IntKind.wrap .u64 x0) (63 : Int)))))), (Value.int .i64 (IntKind.wrap .i64 (Int.tmod (IntKind.wrap .u64 x1) (16 : Int)))), (Value.int .i64 (IntKind.wrap .i64 ((1 : Int) + (IntKind.wrap .i64 (Int.tmod (IntKind.wrap .u64 x2) (1000 : Int)))))), (Value.int .i64 (IntKind.wrap .i64 ((1 : Int) + (IntKind.wrap .i64 (Int.tmod (IntKind.wrap .u64 x3) (100 : Int))))))] cellOK = true) ∧ stC H9 ⟨o9, 0, none⟩ [(Value.int .i64 (IntKind.wrap .i64 ((1 : Int) + (IntKind.wrap .i64 (Int.tmod (IntKind.wrap .u64 x0) (63 : Int)))))), (Value.int .i64 (IntKind.wrap .i64 (Int.tmod (IntKind.wrap .u64 x1) (16 : Int)))), (Value.int .i64 (IntKind.wrap .i64 ((1 : Int) + (IntKind.wrap .i64 (Int.tmod (IntKind.wrap .u64 x2) (1000 : Int)))))), (Value.int .i64 (IntKind.wrap .i64 ((1 : Int) + (IntKind.wrap .i64 (Int.tmod (IntKind.wrap .u64 x3) (100 : Int))))))] fun Hs2 => ldA Hs2 ⟨o9, 0, none⟩ 4 fun c32 => ldA Hs2 ⟨o9, 0, none⟩ 4 fun c33 => newC Hs2 ⟨[(Value.int .i64 (0 : Int)), (Value.int .i64 (0 : Int)), (Value.int .i64 (0 : Int)), (Value.int .i64 (0 : Int))], .rw, 0⟩ fun o10 H10 => newC H10 ⟨[(Value.int .i64 (0 : Int)), (Value.int .i64 (0 : Int)), (Value.int .i64 (0 : Int)), (Value.int .i64 (0 : Int))], .rw, 0⟩ fun o11 H11 => (List.length c32 = 4 ∧ List.all c32 cellOK = true) ∧ stC H11 ⟨o10, 0, none⟩ c32 fun Hs4 => AH.row? Hs4 ⟨o9, 0, none⟩ 4 = some c33 ∧ (List.length c33 = 4 ∧ List.all c33 cellOK = true) ∧ stC Hs4 ⟨o11, 0, none⟩ c33 fun Hs6 => elI .i64 (AH.cell? Hs6 (Addr.add ⟨o10, 0, none⟩ 0)) fun n35 => stC Hs6 (Addr.add ⟨o10, 0, none⟩ 0) [(Value.int .i64 (IntKind.wrap .i64 (n35 + (1 : Int))))] fun Hs8 => elI .i64 (AH.cell? Hs8 (Addr.add ⟨o11, 0, none⟩ 1)) fun n39 => stC Hs8 (Addr.add ⟨o11, 0, none⟩ 1) [(Value.int .i64 (IntKind.wrap .i64 (n39 + (1 : Int))))] fun Hs10 => ldA Hs10 ⟨o10, 0, none⟩ 4 fun c42 => ldA Hs10 ⟨o9, 0, none⟩ 4 fun c44 => plan_Device c42 Hs10 fun n43 H43 => AH.row? H43 ⟨o9, 0, none⟩ 4 = some c44 ∧ plan_Device c44 H43 fun n45 H45 => bcase ((n43 : Int) == (IntKind.wrap .i64 (n45 + (1 : Int)))) (ldA H45 ⟨o10, 0, none⟩ 4 fun c49 => ldA H45 ⟨o9, 0, none⟩ 4 fun c51 => plan_Words c49 H45 fun n50 H50 => AH.row? H50 ⟨o9, 0, none⟩ 4 = some c51 ∧ plan_Words c51 H50 fun n52 H52 => bcase ((n50 : Int) == (IntKind.wrap .i64 (n52 + (8 : Int)))) (ldA H52 ⟨o10, 0, none⟩ 4 fun c57 => ldA H52 ⟨o9, 0, none⟩ 4 fun c59 => plan_Logical c57 H52 fun n58 H58 => AH.row? H58 ⟨o9, 0, none⟩ 4 = some c59 ∧ plan_Logical c59 H58 fun n60 H60 => bcase ((n58 : Int) == (IntKind.wrap .i64 (n60 + (1 : Int)))) (ldA H60 ⟨o11, 0, none⟩ 4 fun c65 => ldA H60 ⟨o9, 0, none⟩ 4 fun c67 => plan_Device c65 H60 fun n66 H66 => AH.row? H66 ⟨o9, 0, none⟩ 4 = some c67 ∧ plan_Device c67 H66 fun n68 H68 => bcase ((n66 : Int) == (IntKind.wrap .i64 (n68 + (1 : Int)))) (ldA H68 ⟨o11, 0, none⟩ 4 fun c73 => ldA H68 ⟨o9, 0, none⟩ 4 fun c75 => plan_Logical c73 H68 fun n74 H74 => AH.row? H74 ⟨o9, 0, none⟩ 4 = some c75 ∧ plan_Logical c75 H74 fun n76 H76 => bcase ((n74 : Int) == n76) (ldA H76 ⟨o10, 0, none⟩ 4 fun c80 => ldA H76 ⟨o9, 0, none⟩ 4 fun c82 => plan_Pages c80 H76 fun n81 H81 => AH.row? H81 ⟨o9, 0, none⟩ 4 = some c82 ∧ plan_Pages c82 H81 fun n83 H83 => bcase (decide (((IntKind.wrap .i64 (n81 - n83)) : Int) ≤ (1 : Int))) (ldA H83 ⟨o10, 0, none⟩ 4 fun c88 => ldA H83 ⟨o9, 0, none⟩ 4 fun c90 => plan_Pages c88 H83 fun n89 H89 => AH.row? H89 ⟨o9, 0, none⟩ 4 = some c90 ∧ plan_Pages c90 H89 fun n91 H91 => bcase (decide ((n89 : Int) ≥ n91)) (darninglaw11_awake  H91 fun b95 H95 => k b95 H95) (k false H91)) (k false H83)) (k false H76)) (k false H68)) (k false H60)) (k false H52)) (k false H45)
def darninglaw11_PlanMore.ann : Ann := { keep := fun r => match r with  | _ => [], ord := fun r => match r with | 2 => [0, 1, 2, 3, 4, 5] | 5 => [0, 2, 1, 3, 4, 5, 6, 7, 9, 8, 10, 11, 12, 13, 14, 15, 17, 16, 18, 19, 20, 21, 22, 23, 25, 24, 26, 27, 28, 29, 30, 31, 33, 32, 34, 35, 36, 37, 38, 40, 39, 41, 42, 43, 44, 45, 46, 48, 47, 49, 50, 51, 52, 53, 54, 55] | _ => [] }
theorem darninglaw11_PlanMore.link {x0 : Int} {x1 : Int} {x2 : Int} {x3 : Int} {H : AH} {k : Bool → AH → Prop} (h : darninglaw11_PlanMore.b x0 x1 x2 x3 H k) : darninglaw11_PlanMore x0 x1 x2 x3 H k := by
  have e : wpC Try.prog T pan Try.f6.ntmps darninglaw11_PlanMore.ann (Try.f6.body.getD .skip) (argFr [(Value.int .i64 x0), (Value.int .i64 x1), (Value.int .i64 x2), (Value.int .i64 x3)]) H (bodyK T Try.f6.results.toList fun e H' => out1 .bool e noPan (fun r0 => k r0 H')) = darninglaw11_PlanMore.b x0 x1 x2 x3 H k := by kernel_rfl
  have h1 : LCalls Try.prog 6 [(Value.int .i64 x0), (Value.int .i64 x1), (Value.int .i64 x2), (Value.int .i64 x3)] H (fun e H' => out1 .bool e noPan (fun r0 => k r0 H')) := lcalls_of hT hm Try.func6 (by kernel_rfl) darninglaw11_PlanMore.ann (Nat.le_of_ble_eq_true (by kernel_rfl)) (e.mpr h)
  exact h1.mono fun _ _ hq => out1_in (fun h => by cases h) hq

def span_Pieces.l1 (x0 : Int) (x1 : Int) (k : Sl → AH → Prop) (t5 : Int × Sl) (HL5 : AH) (it5 : (Int × Sl) → AH → Prop) : Prop :=
  bcase (decide ((t5.1 : Int) < (IntKind.wrap .i64 (x0 + x1)))) (((8 : Int) : Int) ≠ 0 ∧ ((8 : Int) : Int) ≠ 0 ∧ newC HL5 ⟨[(Value.int .i64 (0 : Int)), (Value.int .i64 (0 : Int)), (Value.int .i64 (0 : Int))], .rw, 0⟩ fun o7 H7 => (List.length [(Value.int .i64 (IntKind.wrap .i64 (Int.tdiv t5.1 (8 : Int)))), (Value.int .i64 (Int.tmod t5.1 (8 : Int))), (Value.int .i64 (0 : Int))] = 3 ∧ List.all [(Value.int .i64 (IntKind.wrap .i64 (Int.tdiv t5.1 (8 : Int)))), (Value.int .i64 (Int.tmod t5.1 (8 : Int))), (Value.int .i64 (0 : Int))] cellOK = true) ∧ stC H7 ⟨o7, 0, none⟩ [(Value.int .i64 (IntKind.wrap .i64 (Int.tdiv t5.1 (8 : Int)))), (Value.int .i64 (Int.tmod t5.1 (8 : Int))), (Value.int .i64 (0 : Int))] fun Hs2 => elI .i64 (AH.cell? Hs2 (Addr.add ⟨o7, 0, none⟩ 1)) fun n34 => stC Hs2 (Addr.add ⟨o7, 0, none⟩ 2) [(Value.int .i64 (if (IntKind.wrap .i64 ((IntKind.wrap .i64 (x0 + x1)) - t5.1)) < (IntKind.wrap .i64 ((8 : Int) - n34)) then (IntKind.wrap .i64 ((IntKind.wrap .i64 (x0 + x1)) - t5.1)) else (IntKind.wrap .i64 ((8 : Int) - n34))))] fun Hs4 => ldA Hs4 ⟨o7, 0, none⟩ 3 fun c42 => (List.length c42 = 3) ∧ newC Hs4 ⟨(setMany [(Value.int .i64 (0 : Int)), (Value.int .i64 (0 : Int)), (Value.int .i64 (0 : Int))] 0 c42), .rw, 3⟩ fun o43 H43 => appendC 3 H43 t5.2 ⟨(some ⟨o43, 0, none⟩), 1, 1⟩ fun s44 H44 => elI .i64 (AH.cell? H44 (Addr.add ⟨o7, 0, none⟩ 2)) fun n47 => it5 ((IntKind.wrap .i64 (t5.1 + n47)), s44) H44) (k t5.2 HL5)
def span_Pieces.j2 (x0 : Int) (x1 : Int) (H : AH) (k : Sl → AH → Prop) (x21 : Bool) : Prop :=
  bcase x21 (k ⟨none, 0, 0⟩ H) (loopT (span_Pieces.l1 x0 x1 k) ((x0, ⟨none, 0, 0⟩) : Int × Sl) H)
def span_Pieces.b (x0 : Int) (x1 : Int) (H : AH) (k : Sl → AH → Prop) : Prop :=
  bcase (decide ((x0 : Int) < (0 : Int))) (span_Pieces.j2 x0 x1 H k true) (bcase (decide ((x1 : Int) < (0 : Int))) (span_Pieces.j2 x0 x1 H k true) (bcase (decide ((x0 : Int) > (1000000 : Int))) (span_Pieces.j2 x0 x1 H k true) (span_Pieces.j2 x0 x1 H k (decide ((x1 : Int) > (448 : Int))))))
def span_Pieces.ann : Ann := { keep := fun r => match r with | 5 => [(0, .int .i64), (5, .sl)] | _ => [], ord := fun r => match r with  | _ => [] }
theorem span_Pieces.link {x0 : Int} {x1 : Int} {H : AH} {k : Sl → AH → Prop} (h : span_Pieces.b x0 x1 H k) : span_Pieces x0 x1 H k := by
  have e : wpC Try.prog T pan Try.f25.ntmps span_Pieces.ann (Try.f25.body.getD .skip) (argFr [(Value.int .i64 x0), (Value.int .i64 x1)]) H (bodyK T Try.f25.results.toList fun e H' => out1 .sl e noPan (fun r0 => k r0 H')) = span_Pieces.b x0 x1 H k := by kernel_rfl
  have h1 : LCalls Try.prog 25 [(Value.int .i64 x0), (Value.int .i64 x1)] H (fun e H' => out1 .sl e noPan (fun r0 => k r0 H')) := lcalls_of hT hm Try.func25 (by kernel_rfl) span_Pieces.ann (Nat.le_of_ble_eq_true (by kernel_rfl)) (e.mpr h)
  exact h1.mono fun _ _ hq => out1_in (fun h => by cases h) hq

def span_within.b (x0 : Sl) (x1 : Int) (x2 : Int) (H : AH) (k : Bool → AH → Prop) : Prop :=
  bcase (decide ((x1 : Int) ≥ (0 : Int))) (bcase (decide ((x2 : Int) ≥ (0 : Int))) (bcase (decide ((x2 : Int) ≤ (448 : Int))) (k (decide ((x1 : Int) ≤ (IntKind.wrap .i64 ((IntKind.wrap .i64 (((x0.n : Nat) : Int) * (8 : Int))) - x2)))) H) (k false H)) (k false H)) (k false H)
def span_within.ann : Ann := { keep := fun r => match r with  | _ => [], ord := fun r => match r with  | _ => [] }
theorem span_within.link {x0 : Sl} {x1 : Int} {x2 : Int} {H : AH} {k : Bool → AH → Prop} (h : span_within.b x0 x1 x2 H k) : span_within x0 x1 x2 H k := by
  have e : wpC Try.prog T pan Try.f60.ntmps span_within.ann (Try.f60.body.getD .skip) (argFr [(Sl.val x0), (Value.int .i64 x1), (Value.int .i64 x2)]) H (bodyK T Try.f60.results.toList fun e H' => out1 .bool e noPan (fun r0 => k r0 H')) = span_within.b x0 x1 x2 H k := by kernel_rfl
  have h1 : LCalls Try.prog 60 [(Sl.val x0), (Value.int .i64 x1), (Value.int .i64 x2)] H (fun e H' => out1 .bool e noPan (fun r0 => k r0 H')) := lcalls_of hT hm Try.func60 (by kernel_rfl) span_within.ann (Nat.le_of_ble_eq_true (by kernel_rfl)) (e.mpr h)
  exact h1.mono fun _ _ hq => out1_in (fun h => by cases h) hq

def span_Read.l1 (x0 : Sl) (x1 : Int) (x2 : Int) (k : Sl → Bool → AH → Prop) (t5 : Sl × Int) (HL5 : AH) (it5 : (Sl × Int) → AH → Prop) : Prop :=
  bcase (decide ((t5.2 : Int) < (IntKind.wrap .i64 (x1 + x2)))) (((8 : Int) : Int) ≠ 0 ∧ (0 ≤ (IntKind.wrap .i64 (Int.tdiv t5.2 (8 : Int))) ∧ (IntKind.wrap .i64 (Int.tdiv t5.2 (8 : Int))) < ((x0.n : Nat) : Int)) ∧ onPtr x0.a fun a27 => elI .u64 (AH.cell? HL5 (Addr.add a27 (Int.toNat (IntKind.wrap .i64 (Int.tdiv t5.2 (8 : Int))) * 1))) fun n28 => ((8 : Int) : Int) ≠ 0 ∧ (0 : Int) ≤ (IntKind.wrap .i64 ((Int.tmod t5.2 (8 : Int)) * (8 : Int))) ∧ newC HL5 ⟨[(Value.int .u8 (IntKind.wrap .u8 (shrI .u64 n28 (IntKind.wrap .i64 ((Int.tmod t5.2 (8 : Int)) * (8 : Int))))))], .rw, 1⟩ fun o34 H34 => appendC 1 H34 t5.1 ⟨(some ⟨o34, 0, none⟩), 1, 1⟩ fun s35 H35 => it5 (s35, (IntKind.wrap .i64 (t5.2 + (1 : Int)))) H35) (k t5.1 true HL5)
def span_Read.b (x0 : Sl) (x1 : Int) (x2 : Int) (H : AH) (k : Sl → Bool → AH → Prop) : Prop :=
  span_within x0 x1 x2 H fun b13 H13 => bcase (!b13) (k ⟨none, 0, 0⟩ false H13) (loopT (span_Read.l1 x0 x1 x2 k) ((⟨none, 0, 0⟩, x1) : Sl × Int) H13)
def span_Read.ann : Ann := { keep := fun r => match r with | 5 => [(8, .sl), (9, .int .i64)] | _ => [], ord := fun r => match r with  | _ => [] }
theorem span_Read.link {x0 : Sl} {x1 : Int} {x2 : Int} {H : AH} {k : Sl → Bool → AH → Prop} (h : span_Read.b x0 x1 x2 H k) : span_Read x0 x1 x2 H k := by
  have e : wpC Try.prog T pan Try.f44.ntmps span_Read.ann (Try.f44.body.getD .skip) (argFr [(Sl.val x0), (Value.int .i64 x1), (Value.int .i64 x2)]) H (bodyK T Try.f44.results.toList fun e H' => out2 .sl .bool e noPan (fun r0 r1 => k r0 r1 H')) = span_Read.b x0 x1 x2 H k := by kernel_rfl
  have h1 : LCalls Try.prog 44 [(Sl.val x0), (Value.int .i64 x1), (Value.int .i64 x2)] H (fun e H' => out2 .sl .bool e noPan (fun r0 r1 => k r0 r1 H')) := lcalls_of hT hm Try.func44 (by kernel_rfl) span_Read.ann (Nat.le_of_ble_eq_true (by kernel_rfl)) (e.mpr h)
  exact h1.mono fun _ _ hq => out2_in (fun h => by cases h) (fun h => by cases h) hq

def span_Edits.j1 (x1 : Int) (t5 : Sl × Int) (it5 : (Sl × Int) → AH → Prop) (n25 : Int) (x8 : Sl) (Hj : AH) : Prop :=
  (0 ≤ (IntKind.wrap .i64 (((x8.n : Nat) : Int) - (1 : Int))) ∧ (IntKind.wrap .i64 (((x8.n : Nat) : Int) - (1 : Int))) < ((x8.n : Nat) : Int)) ∧ onPtr x8.a fun a59 => elI .u64 (AH.cell? Hj (Addr.add (Addr.add a59 (Int.toNat (IntKind.wrap .i64 (((x8.n : Nat) : Int) - (1 : Int))) * 2)) 1)) fun n64 => ((8 : Int) : Int) ≠ 0 ∧ (0 : Int) ≤ (IntKind.wrap .i64 ((Int.tmod (IntKind.wrap .i64 (x1 + t5.2)) (8 : Int)) * (8 : Int))) ∧ ((8 : Int) : Int) ≠ 0 ∧ (0 : Int) ≤ (IntKind.wrap .i64 ((Int.tmod (IntKind.wrap .i64 (x1 + t5.2)) (8 : Int)) * (8 : Int))) ∧ stC Hj (Addr.add (Addr.add a59 (Int.toNat (IntKind.wrap .i64 (((x8.n : Nat) : Int) - (1 : Int))) * 2)) 1) [(Value.int .u64 (orI .u64 (andNotI .u64 n64 (shlI .u64 (255 : Int) (IntKind.wrap .i64 ((Int.tmod (IntKind.wrap .i64 (x1 + t5.2)) (8 : Int)) * (8 : Int))))) (shlI .u64 (IntKind.wrap .u64 n25) (IntKind.wrap .i64 ((Int.tmod (IntKind.wrap .i64 (x1 + t5.2)) (8 : Int)) * (8 : Int))))))] fun Hs2 => it5 (x8, (IntKind.wrap .i64 (t5.2 + (1 : Int)))) Hs2
def span_Edits.j2 (x0 : Sl) (x1 : Int) (t5 : Sl × Int) (it5 : (Sl × Int) → AH → Prop) (HL5 : AH) (n25 : Int) (x43 : Bool) : Prop :=
  bcase x43 (((8 : Int) : Int) ≠ 0 ∧ ((8 : Int) : Int) ≠ 0 ∧ (0 ≤ (IntKind.wrap .i64 (Int.tdiv (IntKind.wrap .i64 (x1 + t5.2)) (8 : Int))) ∧ (IntKind.wrap .i64 (Int.tdiv (IntKind.wrap .i64 (x1 + t5.2)) (8 : Int))) < ((x0.n : Nat) : Int)) ∧ onPtr x0.a fun a50 => elI .u64 (AH.cell? HL5 (Addr.add a50 (Int.toNat (IntKind.wrap .i64 (Int.tdiv (IntKind.wrap .i64 (x1 + t5.2)) (8 : Int))) * 1))) fun n51 => (List.length [(Value.int .i64 (IntKind.wrap .i64 (Int.tdiv (IntKind.wrap .i64 (x1 + t5.2)) (8 : Int)))), (Value.int .u64 n51)] = 2) ∧ newC HL5 ⟨[(Value.int .i64 (IntKind.wrap .i64 (Int.tdiv (IntKind.wrap .i64 (x1 + t5.2)) (8 : Int)))), (Value.int .u64 n51)], .rw, 2⟩ fun o53 H53 => appendC 2 H53 t5.1 ⟨(some ⟨o53, 0, none⟩), 1, 1⟩ fun s54 H54 => span_Edits.j1 x1 t5 it5 n25 s54 H54) (span_Edits.j1 x1 t5 it5 n25 t5.1 HL5)
def span_Edits.l3 (x0 : Sl) (x1 : Int) (x2 : Sl) (k : Sl → Bool → AH → Prop) (t5 : Sl × Int) (HL5 : AH) (it5 : (Sl × Int) → AH → Prop) : Prop :=
  bcase (decide ((t5.2 : Int) < ((x2.n : Nat) : Int))) ((0 ≤ t5.2 ∧ t5.2 < ((x2.n : Nat) : Int)) ∧ onPtr x2.a fun a24 => elI .u8 (AH.cell? HL5 (Addr.add a24 (Int.toNat t5.2 * 1))) fun n25 => bcase ((((t5.1.n : Nat) : Int) : Int) == (0 : Int)) (span_Edits.j2 x0 x1 t5 it5 HL5 n25 true) ((0 ≤ (IntKind.wrap .i64 (((t5.1.n : Nat) : Int) - (1 : Int))) ∧ (IntKind.wrap .i64 (((t5.1.n : Nat) : Int) - (1 : Int))) < ((t5.1.n : Nat) : Int)) ∧ onPtr t5.1.a fun a37 => elI .i64 (AH.cell? HL5 (Addr.add (Addr.add a37 (Int.toNat (IntKind.wrap .i64 (((t5.1.n : Nat) : Int) - (1 : Int))) * 2)) 0)) fun n39 => ((8 : Int) : Int) ≠ 0 ∧ span_Edits.j2 x0 x1 t5 it5 HL5 n25 ((n39 : Int) != (IntKind.wrap .i64 (Int.tdiv (IntKind.wrap .i64 (x1 + t5.2)) (8 : Int)))))) (k t5.1 true HL5)
def span_Edits.b (x0 : Sl) (x1 : Int) (x2 : Sl) (H : AH) (k : Sl → Bool → AH → Prop) : Prop :=
  span_within x0 x1 ((x2.n : Nat) : Int) H fun b17 H17 => bcase (!b17) (k ⟨none, 0, 0⟩ false H17) (loopT (span_Edits.l3 x0 x1 x2 k) ((⟨none, 0, 0⟩, (0 : Int)) : Sl × Int) H17)
def span_Edits.ann : Ann := { keep := fun r => match r with | 5 => [(8, .sl), (21, .int .i64)] | _ => [], ord := fun r => match r with | 11 => [0, 1, 2, 3, 4, 5, 6, 7, 8, 9, 10, 11, 12, 13, 14, 15, 16, 17, 18, 19] | _ => [] }
theorem span_Edits.link {x0 : Sl} {x1 : Int} {x2 : Sl} {H : AH} {k : Sl → Bool → AH → Prop} (h : span_Edits.b x0 x1 x2 H k) : span_Edits x0 x1 x2 H k := by
  have e : wpC Try.prog T pan Try.f42.ntmps span_Edits.ann (Try.f42.body.getD .skip) (argFr [(Sl.val x0), (Value.int .i64 x1), (Sl.val x2)]) H (bodyK T Try.f42.results.toList fun e H' => out2 .sl .bool e noPan (fun r0 r1 => k r0 r1 H')) = span_Edits.b x0 x1 x2 H k := by kernel_rfl
  have h1 : LCalls Try.prog 42 [(Sl.val x0), (Value.int .i64 x1), (Sl.val x2)] H (fun e H' => out2 .sl .bool e noPan (fun r0 r1 => k r0 r1 H')) := lcalls_of hT hm Try.func42 (by kernel_rfl) span_Edits.ann (Nat.le_of_ble_eq_true (by kernel_rfl)) (e.mpr h)
  exact h1.mono fun _ _ hq => out2_in (fun h => by cases h) (fun h => by cases h) hq

def darninglaw18_awake.b (H : AH) (k : Bool → AH → Prop) : Prop :=
  span_Pieces (6 : Int) (4 : Int) H fun s6 H6 => newC H6 ⟨[(Value.int .u64 (578437695752307201 : Int))], .rw, 1⟩ fun o8 H8 => span_Read ⟨(some ⟨o8, 0, none⟩), 1, 1⟩ (2 : Int) (3 : Int) H8 fun s9a b9b H9 => newC H9 ⟨[(Value.int .u64 (0 : Int))], .rw, 1⟩ fun o13 H13 => newC H13 ⟨[(Value.int .u8 (5 : Int))], .rw, 1⟩ fun o14 H14 => span_Edits ⟨(some ⟨o13, 0, none⟩), 1, 1⟩ (1 : Int) ⟨(some ⟨o14, 0, none⟩), 1, 1⟩ H14 fun s15a b15b H15 => bcase ((((s6.n : Nat) : Int) : Int) == (2 : Int)) ((0 ≤ (0 : Int) ∧ (0 : Int) < ((s6.n : Nat) : Int)) ∧ onPtr s6.a fun a23 => ldA H15 (Addr.add a23 (Int.toNat (0 : Int) * 3)) 3 fun c24 => elO (eqCells [(K.int .i64), (K.int .i64), (K.int .i64)] c24 [(Value.int .i64 (0 : Int)), (Value.int .i64 (6 : Int)), (Value.int .i64 (2 : Int))]) fun e26 => bcase e26 ((0 ≤ (1 : Int) ∧ (1 : Int) < ((s6.n : Nat) : Int)) ∧ onPtr s6.a fun a30 => ldA H15 (Addr.add a30 (Int.toNat (1 : Int) * 3)) 3 fun c31 => elO (eqCells [(K.int .i64), (K.int .i64), (K.int .i64)] c31 [(Value.int .i64 (1 : Int)), (Value.int .i64 (0 : Int)), (Value.int .i64 (2 : Int))]) fun e33 => bcase e33 (bcase b9b (strC H15 s9a fun y40 => bcase (ByteArray.toList ⟨List.toArray y40⟩ == ByteArray.toList ⟨#[3, 4, 5]⟩) (bcase b15b (bcase ((((s15a.n : Nat) : Int) : Int) == (1 : Int)) ((0 ≤ (0 : Int) ∧ (0 : Int) < ((s15a.n : Nat) : Int)) ∧ onPtr s15a.a fun a53 => elI .u64 (AH.cell? H15 (Addr.add (Addr.add a53 (Int.toNat (0 : Int) * 2)) 1)) fun n55 => k ((n55 : Int) == (1280 : Int)) H15) (k false H15)) (k false H15)) (k false H15)) (k false H15)) (k false H15)) (k false H15)) (k false H15)
def darninglaw18_awake.ann : Ann := { keep := fun r => match r with  | _ => [], ord := fun r => match r with  | _ => [] }
theorem darninglaw18_awake.link {_u : Unit} {H : AH} {k : Bool → AH → Prop} (h : darninglaw18_awake.b  H k) : darninglaw18_awake  H k := by
  have e : wpC Try.prog T pan Try.f26.ntmps darninglaw18_awake.ann (Try.f26.body.getD .skip) (argFr []) H (bodyK T Try.f26.results.toList fun e H' => out1 .bool e noPan (fun r0 => k r0 H')) = darninglaw18_awake.b  H k := by kernel_rfl
  have h1 : LCalls Try.prog 26 [] H (fun e H' => out1 .bool e noPan (fun r0 => k r0 H')) := lcalls_of hT hm Try.func26 (by kernel_rfl) darninglaw18_awake.ann (Nat.le_of_ble_eq_true (by kernel_rfl)) (e.mpr h)
  exact h1.mono fun _ _ hq => out1_in (fun h => by cases h) hq

def darninglaw18_SpanPieces.j1 (x0 : Int) (x1 : Int) (k : Bool → AH → Prop) (t4 : Bool × Int × Int) (HL4 : AH) : Prop :=
  bcase ((t4.2.1 : Int) == (IntKind.wrap .i64 ((IntKind.wrap .i64 (Int.tmod (IntKind.wrap .u64 x0) (1000001 : Int))) + (IntKind.wrap .i64 (Int.tmod (IntKind.wrap .u64 x1) (449 : Int)))))) (darninglaw18_awake  HL4 fun b62 H62 => k b62 H62) (k false HL4)
def darninglaw18_SpanPieces.j2 (k : Bool → AH → Prop) (t4 : Bool × Int × Int) (it4 : (Bool × Int × Int) → AH → Prop) (o7 : Nat) (Hs2 : AH) (x50 : Bool) : Prop :=
  bcase x50 (k false Hs2) (elI .i64 (AH.cell? Hs2 (Addr.add ⟨o7, 0, none⟩ 2)) fun n53 => it4 (t4.1, (IntKind.wrap .i64 (t4.2.1 + n53)), (IntKind.wrap .i64 (t4.2.2 + (1 : Int)))) Hs2)
def darninglaw18_SpanPieces.l3 (x0 : Int) (x1 : Int) (k : Bool → AH → Prop) (s19 : Sl) (t4 : Bool × Int × Int) (HL4 : AH) (it4 : (Bool × Int × Int) → AH → Prop) : Prop :=
  bcase (decide ((t4.2.2 : Int) < ((s19.n : Nat) : Int))) ((0 ≤ t4.2.2 ∧ t4.2.2 < ((s19.n : Nat) : Int)) ∧ onPtr s19.a fun a23 => ldA HL4 (Addr.add a23 (Int.toNat t4.2.2 * 3)) 3 fun c24 => newC HL4 ⟨[(Value.int .i64 (0 : Int)), (Value.int .i64 (0 : Int)), (Value.int .i64 (0 : Int))], .rw, 0⟩ fun o7 H7 => (List.length c24 = 3 ∧ List.all c24 cellOK = true) ∧ stC H7 ⟨o7, 0, none⟩ c24 fun Hs2 => elI .i64 (AH.cell? Hs2 (Addr.add ⟨o7, 0, none⟩ 2)) fun n26 => bcase (decide ((n26 : Int) < (1 : Int))) (darninglaw18_SpanPieces.j2 k t4 it4 o7 Hs2 true) (elI .i64 (AH.cell? Hs2 (Addr.add ⟨o7, 0, none⟩ 1)) fun n30 => bcase (decide ((n30 : Int) < (0 : Int))) (darninglaw18_SpanPieces.j2 k t4 it4 o7 Hs2 true) (elI .i64 (AH.cell? Hs2 (Addr.add ⟨o7, 0, none⟩ 1)) fun n35 => elI .i64 (AH.cell? Hs2 (Addr.add ⟨o7, 0, none⟩ 2)) fun n37 => bcase (decide (((IntKind.wrap .i64 (n35 + n37)) : Int) > (8 : Int))) (darninglaw18_SpanPieces.j2 k t4 it4 o7 Hs2 true) (elI .i64 (AH.cell? Hs2 (Addr.add ⟨o7, 0, none⟩ 0)) fun n43 => elI .i64 (AH.cell? Hs2 (Addr.add ⟨o7, 0, none⟩ 1)) fun n46 => darninglaw18_SpanPieces.j2 k t4 it4 o7 Hs2 (((IntKind.wrap .i64 ((IntKind.wrap .i64 (n43 * (8 : Int))) + n46)) : Int) != t4.2.1))))) (darninglaw18_SpanPieces.j1 x0 x1 k t4 HL4)
def darninglaw18_SpanPieces.b (x0 : Int) (x1 : Int) (H : AH) (k : Bool → AH → Prop) : Prop :=
  ((1000001 : Int) : Int) ≠ 0 ∧ ((449 : Int) : Int) ≠ 0 ∧ span_Pieces (IntKind.wrap .i64 (Int.tmod (IntKind.wrap .u64 x0) (1000001 : Int))) (IntKind.wrap .i64 (Int.tmod (IntKind.wrap .u64 x1) (449 : Int))) H fun s19 H19 => loopT (darninglaw18_SpanPieces.l3 x0 x1 k s19) ((false, (IntKind.wrap .i64 (Int.tmod (IntKind.wrap .u64 x0) (1000001 : Int))), (0 : Int)) : Bool × Int × Int) H19
def darninglaw18_SpanPieces.ann : Ann := { keep := fun r => match r with | 4 => [(4, .bool), (5, .int .i64), (21, .int .i64)] | _ => [], ord := fun r => match r with  | _ => [] }
theorem darninglaw18_SpanPieces.link {x0 : Int} {x1 : Int} {H : AH} {k : Bool → AH → Prop} (h : darninglaw18_SpanPieces.b x0 x1 H k) : darninglaw18_SpanPieces x0 x1 H k := by
  have e : wpC Try.prog T pan Try.f7.ntmps darninglaw18_SpanPieces.ann (Try.f7.body.getD .skip) (argFr [(Value.int .i64 x0), (Value.int .i64 x1)]) H (bodyK T Try.f7.results.toList fun e H' => out1 .bool e noPan (fun r0 => k r0 H')) = darninglaw18_SpanPieces.b x0 x1 H k := by kernel_rfl
  have h1 : LCalls Try.prog 7 [(Value.int .i64 x0), (Value.int .i64 x1)] H (fun e H' => out1 .bool e noPan (fun r0 => k r0 H')) := lcalls_of hT hm Try.func7 (by kernel_rfl) darninglaw18_SpanPieces.ann (Nat.le_of_ble_eq_true (by kernel_rfl)) (e.mpr h)
  exact h1.mono fun _ _ hq => out1_in (fun h => by cases h) hq

def cost_Lines.j1 (k : Int → AH → Prop) (o1 : Nat) (H1 : AH) (x14 : Bool) : Prop :=
  bcase x14 (elI .i64 (AH.cell? H1 (Addr.add ⟨o1, 0, none⟩ 2)) fun n16 => ((64 : Int) : Int) ≠ 0 ∧ k (IntKind.wrap .i64 ((IntKind.wrap .i64 (Int.tdiv n16 (64 : Int))) + (4 : Int))) H1) (k (0 : Int) H1)
def cost_Lines.b (x0 : List Value) (H : AH) (k : Int → AH → Prop) : Prop :=
  newC H ⟨x0, .rw, 0⟩ fun o1 H1 => elI .i64 (AH.cell? H1 (Addr.add ⟨o1, 0, none⟩ 0)) fun n4 => bcase ((n4 : Int) == (1 : Int)) (elI .i64 (AH.cell? H1 (Addr.add ⟨o1, 0, none⟩ 2)) fun n8 => bcase (decide ((n8 : Int) ≥ (0 : Int))) (elI .i64 (AH.cell? H1 (Addr.add ⟨o1, 0, none⟩ 2)) fun n12 => cost_Lines.j1 k o1 H1 (decide ((n12 : Int) ≤ (448 : Int)))) (cost_Lines.j1 k o1 H1 false)) (bcase ((n4 : Int) == (4 : Int)) (elL (AH.cell? H1 (Addr.add ⟨o1, 0, none⟩ 4)) fun s22 => bcase (decide ((((s22.n : Nat) : Int) : Int) ≤ (448 : Int))) (elL (AH.cell? H1 (Addr.add ⟨o1, 0, none⟩ 4)) fun s26 => ((64 : Int) : Int) ≠ 0 ∧ k (IntKind.wrap .i64 ((IntKind.wrap .i64 (Int.tdiv ((s26.n : Nat) : Int) (64 : Int))) + (2 : Int))) H1) (k (0 : Int) H1)) (bcase ((n4 : Int) == (2 : Int)) (k (1 : Int) H1) (k (0 : Int) H1)))
def cost_Lines.ann : Ann := { keep := fun r => match r with  | _ => [], ord := fun r => match r with  | _ => [] }
theorem cost_Lines.link {x0 : List Value} {H : AH} {k : Int → AH → Prop} (h : cost_Lines.b x0 H k) : cost_Lines x0 H k := by
  have e : wpC Try.prog T pan Try.f28.ntmps cost_Lines.ann (Try.f28.body.getD .skip) (argFr [(Value.agg (List.toArray x0))]) H (bodyK T Try.f28.results.toList fun e H' => out1 (.int .i64) e noPan (fun r0 => k r0 H')) = cost_Lines.b x0 H k := by kernel_rfl
  have h1 : LCalls Try.prog 28 [(Value.agg (List.toArray x0))] H (fun e H' => out1 (.int .i64) e noPan (fun r0 => k r0 H')) := lcalls_of hT hm Try.func28 (by kernel_rfl) cost_Lines.ann (Nat.le_of_ble_eq_true (by kernel_rfl)) (e.mpr h)
  exact h1.mono fun _ _ hq => out1_in (fun h => by cases h) hq

def cost_may.b (x0 : Int) (H : AH) (k : Bool → AH → Prop) : Prop :=
  bcase (decide ((x0 : Int) ≥ (0 : Int))) (k (decide ((x0 : Int) ≤ (16 : Int))) H) (k false H)
def cost_may.ann : Ann := { keep := fun r => match r with  | _ => [], ord := fun r => match r with  | _ => [] }
theorem cost_may.link {x0 : Int} {H : AH} {k : Bool → AH → Prop} (h : cost_may.b x0 H k) : cost_may x0 H k := by
  have e : wpC Try.prog T pan Try.f46.ntmps cost_may.ann (Try.f46.body.getD .skip) (argFr [(Value.int .i64 x0)]) H (bodyK T Try.f46.results.toList fun e H' => out1 .bool e noPan (fun r0 => k r0 H')) = cost_may.b x0 H k := by kernel_rfl
  have h1 : LCalls Try.prog 46 [(Value.int .i64 x0)] H (fun e H' => out1 .bool e noPan (fun r0 => k r0 H')) := lcalls_of hT hm Try.func46 (by kernel_rfl) cost_may.ann (Nat.le_of_ble_eq_true (by kernel_rfl)) (e.mpr h)
  exact h1.mono fun _ _ hq => out1_in (fun h => by cases h) hq

def cost_of.b (x0 : Int) (x1 : Int) (H : AH) (k : Int → AH → Prop) : Prop :=
  k (IntKind.wrap .i64 ((IntKind.wrap .i64 ((IntKind.wrap .i64 ((12 : Int) * x0)) + (24 : Int))) + (IntKind.wrap .i64 ((4 : Int) * x1)))) H
def cost_of.ann : Ann := { keep := fun r => match r with  | _ => [], ord := fun r => match r with  | _ => [] }
theorem cost_of.link {x0 : Int} {x1 : Int} {H : AH} {k : Int → AH → Prop} (h : cost_of.b x0 x1 H k) : cost_of x0 x1 H k := by
  have e : wpC Try.prog T pan Try.f47.ntmps cost_of.ann (Try.f47.body.getD .skip) (argFr [(Value.int .i64 x0), (Value.int .i64 x1)]) H (bodyK T Try.f47.results.toList fun e H' => out1 (.int .i64) e noPan (fun r0 => k r0 H')) = cost_of.b x0 x1 H k := by kernel_rfl
  have h1 : LCalls Try.prog 47 [(Value.int .i64 x0), (Value.int .i64 x1)] H (fun e H' => out1 (.int .i64) e noPan (fun r0 => k r0 H')) := lcalls_of hT hm Try.func47 (by kernel_rfl) cost_of.ann (Nat.le_of_ble_eq_true (by kernel_rfl)) (e.mpr h)
  exact h1.mono fun _ _ hq => out1_in (fun h => by cases h) hq

def cost_Op.b (x0 : List Value) (x1 : Int) (H : AH) (k : Int → AH → Prop) : Prop :=
  newC H ⟨x0, .rw, 0⟩ fun o2 H2 => ldA H2 ⟨o2, 0, none⟩ 5 fun c6 => cost_Lines c6 H2 fun n7 H7 => cost_may x1 H7 fun b10 H10 => bcase (!b10) (k (0 : Int) H10) (elI .i64 (AH.cell? H10 (Addr.add ⟨o2, 0, none⟩ 0)) fun n14 => bcase ((n14 : Int) == (5 : Int)) (k (1 : Int) H10) (bcase ((n7 : Int) == (0 : Int)) (k (0 : Int) H10) (cost_of n7 x1 H10 fun n21 H21 => k n21 H21)))
def cost_Op.ann : Ann := { keep := fun r => match r with  | _ => [], ord := fun r => match r with  | _ => [] }
theorem cost_Op.link {x0 : List Value} {x1 : Int} {H : AH} {k : Int → AH → Prop} (h : cost_Op.b x0 x1 H k) : cost_Op x0 x1 H k := by
  have e : wpC Try.prog T pan Try.f30.ntmps cost_Op.ann (Try.f30.body.getD .skip) (argFr [(Value.agg (List.toArray x0)), (Value.int .i64 x1)]) H (bodyK T Try.f30.results.toList fun e H' => out1 (.int .i64) e noPan (fun r0 => k r0 H')) = cost_Op.b x0 x1 H k := by kernel_rfl
  have h1 : LCalls Try.prog 30 [(Value.agg (List.toArray x0)), (Value.int .i64 x1)] H (fun e H' => out1 (.int .i64) e noPan (fun r0 => k r0 H')) := lcalls_of hT hm Try.func30 (by kernel_rfl) cost_Op.ann (Nat.le_of_ble_eq_true (by kernel_rfl)) (e.mpr h)
  exact h1.mono fun _ _ hq => out1_in (fun h => by cases h) hq

def cost_Recover.b (x0 : Int) (H : AH) (k : Int → AH → Prop) : Prop :=
  cost_may x0 H fun b4 H4 => bcase (!b4) (k (0 : Int) H4) (cost_of (14 : Int) x0 H4 fun n7 H7 => k n7 H7)
def cost_Recover.ann : Ann := { keep := fun r => match r with  | _ => [], ord := fun r => match r with  | _ => [] }
theorem cost_Recover.link {x0 : Int} {H : AH} {k : Int → AH → Prop} (h : cost_Recover.b x0 H k) : cost_Recover x0 H k := by
  have e : wpC Try.prog T pan Try.f32.ntmps cost_Recover.ann (Try.f32.body.getD .skip) (argFr [(Value.int .i64 x0)]) H (bodyK T Try.f32.results.toList fun e H' => out1 (.int .i64) e noPan (fun r0 => k r0 H')) = cost_Recover.b x0 H k := by kernel_rfl
  have h1 : LCalls Try.prog 32 [(Value.int .i64 x0)] H (fun e H' => out1 (.int .i64) e noPan (fun r0 => k r0 H')) := lcalls_of hT hm Try.func32 (by kernel_rfl) cost_Recover.ann (Nat.le_of_ble_eq_true (by kernel_rfl)) (e.mpr h)
  exact h1.mono fun _ _ hq => out1_in (fun h => by cases h) hq

def cost_Format.b (x0 : List Value) (H : AH) (k : Int → AH → Prop) : Prop :=
  newC H ⟨x0, .rw, 0⟩ fun o1 H1 => ldA H1 ⟨o1, 0, none⟩ 4 fun c3 => plan_May c3 H1 fun b4 H4 => bcase (!b4) (k (0 : Int) H4) (k (200 : Int) H4)
def cost_Format.ann : Ann := { keep := fun r => match r with  | _ => [], ord := fun r => match r with  | _ => [] }
theorem cost_Format.link {x0 : List Value} {H : AH} {k : Int → AH → Prop} (h : cost_Format.b x0 H k) : cost_Format x0 H k := by
  have e : wpC Try.prog T pan Try.f34.ntmps cost_Format.ann (Try.f34.body.getD .skip) (argFr [(Value.agg (List.toArray x0))]) H (bodyK T Try.f34.results.toList fun e H' => out1 (.int .i64) e noPan (fun r0 => k r0 H')) = cost_Format.b x0 H k := by kernel_rfl
  have h1 : LCalls Try.prog 34 [(Value.agg (List.toArray x0))] H (fun e H' => out1 (.int .i64) e noPan (fun r0 => k r0 H')) := lcalls_of hT hm Try.func34 (by kernel_rfl) cost_Format.ann (Nat.le_of_ble_eq_true (by kernel_rfl)) (e.mpr h)
  exact h1.mono fun _ _ hq => out1_in (fun h => by cases h) hq

def darninglaw24_awake.b (H : AH) (k : Bool → AH → Prop) : Prop :=
  newC H ⟨[(Value.int .i64 (0 : Int)), (Value.int .i64 (0 : Int)), (Value.int .i64 (0 : Int)), (Value.int .i64 (0 : Int)), (Value.slice none 0 0)], .rw, 0⟩ fun o1 H1 => (List.length [(Value.int .i64 (2 : Int)), (Value.int .i64 (0 : Int)), (Value.int .i64 (0 : Int)), (Value.int .i64 (0 : Int)), (Value.slice none 0 0)] = 5 ∧ List.all [(Value.int .i64 (2 : Int)), (Value.int .i64 (0 : Int)), (Value.int .i64 (0 : Int)), (Value.int .i64 (0 : Int)), (Value.slice none 0 0)] cellOK = true) ∧ stC H1 ⟨o1, 0, none⟩ [(Value.int .i64 (2 : Int)), (Value.int .i64 (0 : Int)), (Value.int .i64 (0 : Int)), (Value.int .i64 (0 : Int)), (Value.slice none 0 0)] fun Hs2 => ldA Hs2 ⟨o1, 0, none⟩ 5 fun c3 => cost_Op c3 (0 : Int) Hs2 fun n4 H4 => bcase ((n4 : Int) == (36 : Int)) (ldA H4 ⟨o1, 0, none⟩ 5 fun c7 => cost_Op c7 (2 : Int) H4 fun n8 H8 => bcase ((n8 : Int) == (44 : Int)) (cost_Lines [(Value.int .i64 (1 : Int)), (Value.int .i64 (0 : Int)), (Value.int .i64 (64 : Int)), (Value.int .i64 (0 : Int)), (Value.slice none 0 0)] H8 fun n13 H13 => bcase ((n13 : Int) == (5 : Int)) (cost_Recover (0 : Int) H13 fun n17 H17 => bcase ((n17 : Int) == (192 : Int)) (cost_Format [(Value.int .i64 (1 : Int)), (Value.int .i64 (0 : Int)), (Value.int .i64 (1 : Int)), (Value.int .i64 (1 : Int))] H17 fun n22 H22 => k ((n22 : Int) == (200 : Int)) H22) (k false H17)) (k false H13)) (k false H8)) (k false H4)
def darninglaw24_awake.ann : Ann := { keep := fun r => match r with  | _ => [], ord := fun r => match r with  | _ => [] }
theorem darninglaw24_awake.link {_u : Unit} {H : AH} {k : Bool → AH → Prop} (h : darninglaw24_awake.b  H k) : darninglaw24_awake  H k := by
  have e : wpC Try.prog T pan Try.f27.ntmps darninglaw24_awake.ann (Try.f27.body.getD .skip) (argFr []) H (bodyK T Try.f27.results.toList fun e H' => out1 .bool e noPan (fun r0 => k r0 H')) = darninglaw24_awake.b  H k := by kernel_rfl
  have h1 : LCalls Try.prog 27 [] H (fun e H' => out1 .bool e noPan (fun r0 => k r0 H')) := lcalls_of hT hm Try.func27 (by kernel_rfl) darninglaw24_awake.ann (Nat.le_of_ble_eq_true (by kernel_rfl)) (e.mpr h)
  exact h1.mono fun _ _ hq => out1_in (fun h => by cases h) hq

def darningref4_CostLines.j1 (k : Int → AH → Prop) (o1 : Nat) (H1 : AH) (x21 : Bool) : Prop :=
  bcase x21 (elL (AH.cell? H1 (Addr.add ⟨o1, 0, none⟩ 4)) fun s32 => ((64 : Int) : Int) ≠ 0 ∧ k (IntKind.wrap .i64 ((IntKind.wrap .i64 (Int.tdiv ((s32.n : Nat) : Int) (64 : Int))) + (2 : Int))) H1) (elI .i64 (AH.cell? H1 (Addr.add ⟨o1, 0, none⟩ 0)) fun n38 => bcase ((n38 : Int) == (2 : Int)) (k (1 : Int) H1) (k (0 : Int) H1))
def darningref4_CostLines.j2 (k : Int → AH → Prop) (o1 : Nat) (H1 : AH) (x3 : Bool) : Prop :=
  bcase x3 (elI .i64 (AH.cell? H1 (Addr.add ⟨o1, 0, none⟩ 2)) fun n18 => ((64 : Int) : Int) ≠ 0 ∧ k (IntKind.wrap .i64 ((IntKind.wrap .i64 (Int.tdiv n18 (64 : Int))) + (4 : Int))) H1) (elI .i64 (AH.cell? H1 (Addr.add ⟨o1, 0, none⟩ 0)) fun n23 => bcase ((n23 : Int) == (4 : Int)) (elL (AH.cell? H1 (Addr.add ⟨o1, 0, none⟩ 4)) fun s27 => darningref4_CostLines.j1 k o1 H1 (decide ((((s27.n : Nat) : Int) : Int) ≤ (448 : Int)))) (darningref4_CostLines.j1 k o1 H1 false))
def darningref4_CostLines.b (x0 : List Value) (H : AH) (k : Int → AH → Prop) : Prop :=
  newC H ⟨x0, .rw, 0⟩ fun o1 H1 => elI .i64 (AH.cell? H1 (Addr.add ⟨o1, 0, none⟩ 0)) fun n5 => bcase ((n5 : Int) == (1 : Int)) (elI .i64 (AH.cell? H1 (Addr.add ⟨o1, 0, none⟩ 2)) fun n9 => bcase (decide ((n9 : Int) ≥ (0 : Int))) (elI .i64 (AH.cell? H1 (Addr.add ⟨o1, 0, none⟩ 2)) fun n14 => darningref4_CostLines.j2 k o1 H1 (decide ((n14 : Int) ≤ (448 : Int)))) (darningref4_CostLines.j2 k o1 H1 false)) (darningref4_CostLines.j2 k o1 H1 false)
def darningref4_CostLines.ann : Ann := { keep := fun r => match r with  | _ => [], ord := fun r => match r with  | _ => [] }
theorem darningref4_CostLines.link {x0 : List Value} {H : AH} {k : Int → AH → Prop} (h : darningref4_CostLines.b x0 H k) : darningref4_CostLines x0 H k := by
  have e : wpC Try.prog T pan Try.f29.ntmps darningref4_CostLines.ann (Try.f29.body.getD .skip) (argFr [(Value.agg (List.toArray x0))]) H (bodyK T Try.f29.results.toList fun e H' => out1 (.int .i64) e noPan (fun r0 => k r0 H')) = darningref4_CostLines.b x0 H k := by kernel_rfl
  have h1 : LCalls Try.prog 29 [(Value.agg (List.toArray x0))] H (fun e H' => out1 (.int .i64) e noPan (fun r0 => k r0 H')) := lcalls_of hT hm Try.func29 (by kernel_rfl) darningref4_CostLines.ann (Nat.le_of_ble_eq_true (by kernel_rfl)) (e.mpr h)
  exact h1.mono fun _ _ hq => out1_in (fun h => by cases h) hq

def darningref4_replaces.b (x0 : Int) (H : AH) (k : Bool → AH → Prop) : Prop :=
  bcase (decide ((x0 : Int) ≥ (0 : Int))) (k (decide ((x0 : Int) ≤ (16 : Int))) H) (k false H)
def darningref4_replaces.ann : Ann := { keep := fun r => match r with  | _ => [], ord := fun r => match r with  | _ => [] }
theorem darningref4_replaces.link {x0 : Int} {H : AH} {k : Bool → AH → Prop} (h : darningref4_replaces.b x0 H k) : darningref4_replaces x0 H k := by
  have e : wpC Try.prog T pan Try.f48.ntmps darningref4_replaces.ann (Try.f48.body.getD .skip) (argFr [(Value.int .i64 x0)]) H (bodyK T Try.f48.results.toList fun e H' => out1 .bool e noPan (fun r0 => k r0 H')) = darningref4_replaces.b x0 H k := by kernel_rfl
  have h1 : LCalls Try.prog 48 [(Value.int .i64 x0)] H (fun e H' => out1 .bool e noPan (fun r0 => k r0 H')) := lcalls_of hT hm Try.func48 (by kernel_rfl) darningref4_replaces.ann (Nat.le_of_ble_eq_true (by kernel_rfl)) (e.mpr h)
  exact h1.mono fun _ _ hq => out1_in (fun h => by cases h) hq

def darningref4_CostOp.b (x0 : List Value) (x1 : Int) (H : AH) (k : Int → AH → Prop) : Prop :=
  newC H ⟨x0, .rw, 0⟩ fun o2 H2 => ldA H2 ⟨o2, 0, none⟩ 5 fun c6 => darningref4_CostLines c6 H2 fun n7 H7 => darningref4_replaces x1 H7 fun b10 H10 => bcase (!b10) (k (0 : Int) H10) (elI .i64 (AH.cell? H10 (Addr.add ⟨o2, 0, none⟩ 0)) fun n14 => bcase ((n14 : Int) == (5 : Int)) (k (1 : Int) H10) (bcase ((n7 : Int) == (0 : Int)) (k (0 : Int) H10) (k (IntKind.wrap .i64 ((IntKind.wrap .i64 ((IntKind.wrap .i64 ((12 : Int) * n7)) + (24 : Int))) + (IntKind.wrap .i64 ((4 : Int) * x1)))) H10)))
def darningref4_CostOp.ann : Ann := { keep := fun r => match r with  | _ => [], ord := fun r => match r with  | _ => [] }
theorem darningref4_CostOp.link {x0 : List Value} {x1 : Int} {H : AH} {k : Int → AH → Prop} (h : darningref4_CostOp.b x0 x1 H k) : darningref4_CostOp x0 x1 H k := by
  have e : wpC Try.prog T pan Try.f31.ntmps darningref4_CostOp.ann (Try.f31.body.getD .skip) (argFr [(Value.agg (List.toArray x0)), (Value.int .i64 x1)]) H (bodyK T Try.f31.results.toList fun e H' => out1 (.int .i64) e noPan (fun r0 => k r0 H')) = darningref4_CostOp.b x0 x1 H k := by kernel_rfl
  have h1 : LCalls Try.prog 31 [(Value.agg (List.toArray x0)), (Value.int .i64 x1)] H (fun e H' => out1 (.int .i64) e noPan (fun r0 => k r0 H')) := lcalls_of hT hm Try.func31 (by kernel_rfl) darningref4_CostOp.ann (Nat.le_of_ble_eq_true (by kernel_rfl)) (e.mpr h)
  exact h1.mono fun _ _ hq => out1_in (fun h => by cases h) hq

def darningref4_CostRecover.b (x0 : Int) (H : AH) (k : Int → AH → Prop) : Prop :=
  darningref4_replaces x0 H fun b4 H4 => bcase (!b4) (k (0 : Int) H4) (k (IntKind.wrap .i64 ((192 : Int) + (IntKind.wrap .i64 ((4 : Int) * x0)))) H4)
def darningref4_CostRecover.ann : Ann := { keep := fun r => match r with  | _ => [], ord := fun r => match r with  | _ => [] }
theorem darningref4_CostRecover.link {x0 : Int} {H : AH} {k : Int → AH → Prop} (h : darningref4_CostRecover.b x0 H k) : darningref4_CostRecover x0 H k := by
  have e : wpC Try.prog T pan Try.f33.ntmps darningref4_CostRecover.ann (Try.f33.body.getD .skip) (argFr [(Value.int .i64 x0)]) H (bodyK T Try.f33.results.toList fun e H' => out1 (.int .i64) e noPan (fun r0 => k r0 H')) = darningref4_CostRecover.b x0 H k := by kernel_rfl
  have h1 : LCalls Try.prog 33 [(Value.int .i64 x0)] H (fun e H' => out1 (.int .i64) e noPan (fun r0 => k r0 H')) := lcalls_of hT hm Try.func33 (by kernel_rfl) darningref4_CostRecover.ann (Nat.le_of_ble_eq_true (by kernel_rfl)) (e.mpr h)
  exact h1.mono fun _ _ hq => out1_in (fun h => by cases h) hq

def darninglaw24_CostForms.j1 (x1 : Int) (k : Bool → AH → Prop) (o3 : Nat) (o5 : Nat) (H14 : AH) (x7 : Int) : Prop :=
  ldA H14 ⟨o3, 0, none⟩ 5 fun c15 => ldA H14 ⟨o3, 0, none⟩ 5 fun c17 => cost_Lines c15 H14 fun n16 H16 => AH.row? H16 ⟨o3, 0, none⟩ 5 = some c17 ∧ darningref4_CostLines c17 H16 fun n18 H18 => bcase ((n16 : Int) == n18) (ldA H18 ⟨o3, 0, none⟩ 5 fun c21 => ldA H18 ⟨o3, 0, none⟩ 5 fun c24 => cost_Op c21 x1 H18 fun n23 H23 => AH.row? H23 ⟨o3, 0, none⟩ 5 = some c24 ∧ darningref4_CostOp c24 x1 H23 fun n26 H26 => bcase ((n23 : Int) == n26) (cost_Recover x1 H26 fun n31 H31 => darningref4_CostRecover x1 H31 fun n33 H33 => bcase ((n31 : Int) == n33) (ldA H33 ⟨o5, 0, none⟩ 4 fun c37 => cost_Format c37 H33 fun n38 H38 => bcase ((n38 : Int) == x7) (darninglaw24_awake  H38 fun b43 H43 => k b43 H43) (k false H38)) (k false H33)) (k false H26)) (k false H18)
def darninglaw24_CostForms.b (x0 : List Value) (x1 : Int) (x2 : List Value) (H : AH) (k : Bool → AH → Prop) : Prop :=
  newC H ⟨x0, .rw, 0⟩ fun o3 H3 => newC H3 ⟨x2, .rw, 0⟩ fun o5 H5 => elL (AH.cell? H5 (Addr.add ⟨o3, 0, none⟩ 4)) fun s9 => bcase (decide ((((s9.n : Nat) : Int) : Int) > (1000 : Int))) (darninglaw24_awake  H5 fun b12 H12 => k b12 H12) (ldA H5 ⟨o5, 0, none⟩ 4 fun c13 => darningref4_MayPlan c13 H5 fun b14 H14 => bcase b14 (darninglaw24_CostForms.j1 x1 k o3 o5 H14 (200 : Int)) (darninglaw24_CostForms.j1 x1 k o3 o5 H14 (0 : Int)))
def darninglaw24_CostForms.ann : Ann := { keep := fun r => match r with  | _ => [], ord := fun r => match r with | 6 => [0, 2, 1, 3, 4, 5, 6, 7, 9, 10, 8, 11, 12, 13, 14, 15, 17, 16, 18, 19, 20, 21, 22, 24, 23, 25, 26, 27, 28, 29, 30] | _ => [] }
theorem darninglaw24_CostForms.link {x0 : List Value} {x1 : Int} {x2 : List Value} {H : AH} {k : Bool → AH → Prop} (h : darninglaw24_CostForms.b x0 x1 x2 H k) : darninglaw24_CostForms x0 x1 x2 H k := by
  have e : wpC Try.prog T pan Try.f8.ntmps darninglaw24_CostForms.ann (Try.f8.body.getD .skip) (argFr [(Value.agg (List.toArray x0)), (Value.int .i64 x1), (Value.agg (List.toArray x2))]) H (bodyK T Try.f8.results.toList fun e H' => out1 .bool e noPan (fun r0 => k r0 H')) = darninglaw24_CostForms.b x0 x1 x2 H k := by kernel_rfl
  have h1 : LCalls Try.prog 8 [(Value.agg (List.toArray x0)), (Value.int .i64 x1), (Value.agg (List.toArray x2))] H (fun e H' => out1 .bool e noPan (fun r0 => k r0 H')) := lcalls_of hT hm Try.func8 (by kernel_rfl) darninglaw24_CostForms.ann (Nat.le_of_ble_eq_true (by kernel_rfl)) (e.mpr h)
  exact h1.mono fun _ _ hq => out1_in (fun h => by cases h) hq

def darninglaw24_CostMore.b (x0 : Int) (x1 : Int) (x2 : Int) (H : AH) (k : Bool → AH → Prop) : Prop :=
  ((448 : Int) : Int) ≠ 0 ∧ ((448 : Int) : Int) ≠ 0 ∧ ((16 : Int) : Int) ≠ 0 ∧ (0 ≤ (IntKind.wrap .i64 (Int.tmod (IntKind.wrap .u64 x1) (448 : Int))) ∧ (IntKind.wrap .i64 (Int.tmod (IntKind.wrap .u64 x1) (448 : Int))) ≤ (IntKind.wrap .i64 (Int.tmod (IntKind.wrap .u64 x1) (448 : Int))) ∧ (IntKind.wrap .i64 (Int.tmod (IntKind.wrap .u64 x1) (448 : Int))) ≤ (lim : Int)) ∧ newC H ⟨zerosOf (Int.toNat (IntKind.wrap .i64 (Int.tmod (IntKind.wrap .u64 x1) (448 : Int)))) [(Value.int .u8 (0 : Int))], .rw, 1⟩ fun o26 H26 => newC H26 ⟨[(Value.int .i64 (0 : Int)), (Value.int .i64 (0 : Int)), (Value.int .i64 (0 : Int)), (Value.int .i64 (0 : Int)), (Value.slice none 0 0)], .rw, 0⟩ fun o7 H7 => newC H7 ⟨[(Value.int .i64 (0 : Int)), (Value.int .i64 (0 : Int)), (Value.int .i64 (0 : Int)), (Value.int .i64 (0 : Int)), (Value.slice none 0 0)], .rw, 0⟩ fun o8 H8 => (List.length [(Value.int .i64 (1 : Int)), (Value.int .i64 (0 : Int)), (Value.int .i64 (IntKind.wrap .i64 (Int.tmod (IntKind.wrap .u64 x0) (448 : Int)))), (Value.int .i64 (0 : Int)), (Value.slice none 0 0)] = 5 ∧ List.all [(Value.int .i64 (1 : Int)), (Value.int .i64 (0 : Int)), (Value.int .i64 (IntKind.wrap .i64 (Int.tmod (IntKind.wrap .u64 x0) (448 : Int)))), (Value.int .i64 (0 : Int)), (Value.slice none 0 0)] cellOK = true) ∧ stC H8 ⟨o7, 0, none⟩ [(Value.int .i64 (1 : Int)), (Value.int .i64 (0 : Int)), (Value.int .i64 (IntKind.wrap .i64 (Int.tmod (IntKind.wrap .u64 x0) (448 : Int)))), (Value.int .i64 (0 : Int)), (Value.slice none 0 0)] fun Hs2 => (List.length [(Value.int .i64 (4 : Int)), (Value.int .i64 (0 : Int)), (Value.int .i64 (0 : Int)), (Value.int .i64 (0 : Int)), (Value.slice (some ⟨o26, 0, none⟩) (Int.toNat (IntKind.wrap .i64 (Int.tmod (IntKind.wrap .u64 x1) (448 : Int)))) 1)] = 5 ∧ List.all [(Value.int .i64 (4 : Int)), (Value.int .i64 (0 : Int)), (Value.int .i64 (0 : Int)), (Value.int .i64 (0 : Int)), (Value.slice (some ⟨o26, 0, none⟩) (Int.toNat (IntKind.wrap .i64 (Int.tmod (IntKind.wrap .u64 x1) (448 : Int)))) 1)] cellOK = true) ∧ stC Hs2 ⟨o8, 0, none⟩ [(Value.int .i64 (4 : Int)), (Value.int .i64 (0 : Int)), (Value.int .i64 (0 : Int)), (Value.int .i64 (0 : Int)), (Value.slice (some ⟨o26, 0, none⟩) (Int.toNat (IntKind.wrap .i64 (Int.tmod (IntKind.wrap .u64 x1) (448 : Int)))) 1)] fun Hs4 => ldA Hs4 ⟨o7, 0, none⟩ 5 fun c28 => ldA Hs4 ⟨o8, 0, none⟩ 5 fun c29 => newC Hs4 ⟨[(Value.int .i64 (0 : Int)), (Value.int .i64 (0 : Int)), (Value.int .i64 (0 : Int)), (Value.int .i64 (0 : Int)), (Value.slice none 0 0)], .rw, 0⟩ fun o9 H9 => newC H9 ⟨[(Value.int .i64 (0 : Int)), (Value.int .i64 (0 : Int)), (Value.int .i64 (0 : Int)), (Value.int .i64 (0 : Int)), (Value.slice none 0 0)], .rw, 0⟩ fun o10 H10 => (List.length c28 = 5 ∧ List.all c28 cellOK = true) ∧ stC H10 ⟨o9, 0, none⟩ c28 fun Hs6 => AH.row? Hs6 ⟨o8, 0, none⟩ 5 = some c29 ∧ (List.length c29 = 5 ∧ List.all c29 cellOK = true) ∧ stC Hs6 ⟨o10, 0, none⟩ c29 fun Hs8 => elI .i64 (AH.cell? Hs8 (Addr.add ⟨o9, 0, none⟩ 2)) fun n31 => stC Hs8 (Addr.add ⟨o9, 0, none⟩ 2) [(Value.int .i64 (IntKind.wrap .i64 (n31 + (1 : Int))))] fun Hs10 => (0 ≤ (IntKind.wrap .i64 ((IntKind.wrap .i64 (Int.tmod (IntKind.wrap .u64 x1) (448 : Int))) + (1 : Int))) ∧ (IntKind.wrap .i64 ((IntKind.wrap .i64 (Int.tmod (IntKind.wrap .u64 x1) (448 : Int))) + (1 : Int))) ≤ (IntKind.wrap .i64 ((IntKind.wrap .i64 (Int.tmod (IntKind.wrap .u64 x1) (448 : Int))) + (1 : Int))) ∧ (IntKind.wrap .i64 ((IntKind.wrap .i64 (Int.tmod (IntKind.wrap .u64 x1) (448 : Int))) + (1 : Int))) ≤ (lim : Int)) ∧ newC Hs10 ⟨zerosOf (Int.toNat (IntKind.wrap .i64 ((IntKind.wrap .i64 (Int.tmod (IntKind.wrap .u64 x1) (448 : Int))) + (1 : Int)))) [(Value.int .u8 (0 : Int))], .rw, 1⟩ fun o36 H36 => stC H36 (Addr.add ⟨o10, 0, none⟩ 4) [(Value.slice (some ⟨o36, 0, none⟩) (Int.toNat (IntKind.wrap .i64 ((IntKind.wrap .i64 (Int.tmod (IntKind.wrap .u64 x1) (448 : Int))) + (1 : Int)))) 1)] fun Hs12 => ldA Hs12 ⟨o9, 0, none⟩ 5 fun c38 => ldA Hs12 ⟨o7, 0, none⟩ 5 fun c41 => cost_Op c38 (IntKind.wrap .i64 (Int.tmod (IntKind.wrap .u64 x2) (16 : Int))) Hs12 fun n40 H40 => AH.row? H40 ⟨o7, 0, none⟩ 5 = some c41 ∧ cost_Op c41 (IntKind.wrap .i64 (Int.tmod (IntKind.wrap .u64 x2) (16 : Int))) H40 fun n43 H43 => bcase (decide ((n40 : Int) ≥ n43)) (ldA H43 ⟨o10, 0, none⟩ 5 fun c46 => ldA H43 ⟨o8, 0, none⟩ 5 fun c49 => cost_Op c46 (IntKind.wrap .i64 (Int.tmod (IntKind.wrap .u64 x2) (16 : Int))) H43 fun n48 H48 => AH.row? H48 ⟨o8, 0, none⟩ 5 = some c49 ∧ cost_Op c49 (IntKind.wrap .i64 (Int.tmod (IntKind.wrap .u64 x2) (16 : Int))) H48 fun n51 H51 => bcase (decide ((n48 : Int) ≥ n51)) (ldA H51 ⟨o7, 0, none⟩ 5 fun c55 => ldA H51 ⟨o7, 0, none⟩ 5 fun c59 => cost_Op c55 (IntKind.wrap .i64 ((IntKind.wrap .i64 (Int.tmod (IntKind.wrap .u64 x2) (16 : Int))) + (1 : Int))) H51 fun n58 H58 => AH.row? H58 ⟨o7, 0, none⟩ 5 = some c59 ∧ cost_Op c59 (IntKind.wrap .i64 (Int.tmod (IntKind.wrap .u64 x2) (16 : Int))) H58 fun n61 H61 => bcase (decide ((n58 : Int) > n61)) (cost_Recover (IntKind.wrap .i64 ((IntKind.wrap .i64 (Int.tmod (IntKind.wrap .u64 x2) (16 : Int))) + (1 : Int))) H61 fun n67 H67 => cost_Recover (IntKind.wrap .i64 (Int.tmod (IntKind.wrap .u64 x2) (16 : Int))) H67 fun n69 H69 => bcase (decide ((n67 : Int) > n69)) (ldA H69 ⟨o9, 0, none⟩ 5 fun c73 => cost_Lines c73 H69 fun n74 H74 => bcase (decide ((n74 : Int) ≤ (14 : Int))) (ldA H74 ⟨o10, 0, none⟩ 5 fun c78 => cost_Lines c78 H74 fun n79 H79 => bcase (decide ((n79 : Int) ≤ (14 : Int))) (ldA H79 ⟨o7, 0, none⟩ 5 fun c83 => cost_Op c83 (17 : Int) H79 fun n84 H84 => bcase ((n84 : Int) == (0 : Int)) (ldA H84 ⟨o7, 0, none⟩ 5 fun c88 => cost_Op c88 (-1 : Int) H84 fun n89 H89 => bcase ((n89 : Int) == (0 : Int)) (darninglaw24_awake  H89 fun b93 H93 => k b93 H93) (k false H89)) (k false H84)) (k false H79)) (k false H74)) (k false H69)) (k false H61)) (k false H51)) (k false H43)
def darninglaw24_CostMore.ann : Ann := { keep := fun r => match r with  | _ => [], ord := fun r => match r with | 2 => [0, 1, 2, 3, 4, 5, 6, 7, 8] | 3 => [0, 1, 2, 3, 4, 5] | 6 => [0, 1, 3, 4, 2, 5, 6, 7, 8, 9, 11, 12, 10, 13, 14, 15, 16, 17, 18, 19, 21, 22, 20, 23, 24, 25, 26, 27, 28, 30, 29, 31, 32, 33, 34, 35, 36, 37, 38, 39, 40, 41, 42, 43, 44, 45, 46, 47, 48, 49, 50, 51, 52, 53, 54, 55, 56, 57] | _ => [] }
theorem darninglaw24_CostMore.link {x0 : Int} {x1 : Int} {x2 : Int} {H : AH} {k : Bool → AH → Prop} (h : darninglaw24_CostMore.b x0 x1 x2 H k) : darninglaw24_CostMore x0 x1 x2 H k := by
  have e : wpC Try.prog T pan Try.f9.ntmps darninglaw24_CostMore.ann (Try.f9.body.getD .skip) (argFr [(Value.int .i64 x0), (Value.int .i64 x1), (Value.int .i64 x2)]) H (bodyK T Try.f9.results.toList fun e H' => out1 .bool e noPan (fun r0 => k r0 H')) = darninglaw24_CostMore.b x0 x1 x2 H k := by kernel_rfl
  have h1 : LCalls Try.prog 9 [(Value.int .i64 x0), (Value.int .i64 x1), (Value.int .i64 x2)] H (fun e H' => out1 .bool e noPan (fun r0 => k r0 H')) := lcalls_of hT hm Try.func9 (by kernel_rfl) darninglaw24_CostMore.ann (Nat.le_of_ble_eq_true (by kernel_rfl)) (e.mpr h)
  exact h1.mono fun _ _ hq => out1_in (fun h => by cases h) hq

def darninglaw19_Heavy.j1 (k : Int → AH → Prop) (t2 : Int × Int) (it2 : (Int × Int) → AH → Prop) (Hs2 : AH) (x19 : Bool) : Prop :=
  bcase x19 (k (IntKind.wrap .i64 (t2.2 + (1 : Int))) Hs2) (it2 (t2.1, (IntKind.wrap .i64 (t2.2 + (1 : Int)))) Hs2)
def darninglaw19_Heavy.l2 (x0 : Sl) (k : Int → AH → Prop) (t2 : Int × Int) (HL2 : AH) (it2 : (Int × Int) → AH → Prop) : Prop :=
  bcase (decide ((t2.2 : Int) < ((x0.n : Nat) : Int))) ((0 ≤ t2.2 ∧ t2.2 < ((x0.n : Nat) : Int)) ∧ onPtr x0.a fun a10 => ldA HL2 (Addr.add a10 (Int.toNat t2.2 * 5)) 5 fun c11 => newC HL2 ⟨[(Value.int .i64 (0 : Int)), (Value.int .i64 (0 : Int)), (Value.int .i64 (0 : Int)), (Value.int .i64 (0 : Int)), (Value.slice none 0 0)], .rw, 0⟩ fun o4 H4 => (List.length c11 = 5 ∧ List.all c11 cellOK = true) ∧ stC H4 ⟨o4, 0, none⟩ c11 fun Hs2 => bcase (decide ((t2.2 : Int) ≥ (100 : Int))) (darninglaw19_Heavy.j1 k t2 it2 Hs2 true) (elL (AH.cell? Hs2 (Addr.add ⟨o4, 0, none⟩ 4)) fun s16 => darninglaw19_Heavy.j1 k t2 it2 Hs2 (decide ((((s16.n : Nat) : Int) : Int) > (500 : Int))))) (k (0 : Int) HL2)
def darninglaw19_Heavy.b (x0 : Sl) (H : AH) (k : Int → AH → Prop) : Prop :=
  loopT (darninglaw19_Heavy.l2 x0 k) (((0 : Int), (0 : Int)) : Int × Int) H
def darninglaw19_Heavy.ann : Ann := { keep := fun r => match r with | 2 => [(2, .int .i64), (7, .int .i64)] | _ => [], ord := fun r => match r with  | _ => [] }
theorem darninglaw19_Heavy.link {x0 : Sl} {H : AH} {k : Int → AH → Prop} (h : darninglaw19_Heavy.b x0 H k) : darninglaw19_Heavy x0 H k := by
  have e : wpC Try.prog T pan Try.f35.ntmps darninglaw19_Heavy.ann (Try.f35.body.getD .skip) (argFr [(Sl.val x0)]) H (bodyK T Try.f35.results.toList fun e H' => out1 (.int .i64) e noPan (fun r0 => k r0 H')) = darninglaw19_Heavy.b x0 H k := by kernel_rfl
  have h1 : LCalls Try.prog 35 [(Sl.val x0)] H (fun e H' => out1 (.int .i64) e noPan (fun r0 => k r0 H')) := lcalls_of hT hm Try.func35 (by kernel_rfl) darninglaw19_Heavy.ann (Nat.le_of_ble_eq_true (by kernel_rfl)) (e.mpr h)
  exact h1.mono fun _ _ hq => out1_in (fun h => by cases h) hq

def darningref4_mayWords.b (x0 : Int) (H : AH) (k : Bool → AH → Prop) : Prop :=
  bcase (decide ((x0 : Int) ≥ (8 : Int))) (bcase (decide ((x0 : Int) ≤ (512 : Int))) (((8 : Int) : Int) ≠ 0 ∧ k (((Int.tmod x0 (8 : Int)) : Int) == (0 : Int)) H) (k false H)) (k false H)
def darningref4_mayWords.ann : Ann := { keep := fun r => match r with  | _ => [], ord := fun r => match r with  | _ => [] }
theorem darningref4_mayWords.link {x0 : Int} {H : AH} {k : Bool → AH → Prop} (h : darningref4_mayWords.b x0 H k) : darningref4_mayWords x0 H k := by
  have e : wpC Try.prog T pan Try.f49.ntmps darningref4_mayWords.ann (Try.f49.body.getD .skip) (argFr [(Value.int .i64 x0)]) H (bodyK T Try.f49.results.toList fun e H' => out1 .bool e noPan (fun r0 => k r0 H')) = darningref4_mayWords.b x0 H k := by kernel_rfl
  have h1 : LCalls Try.prog 49 [(Value.int .i64 x0)] H (fun e H' => out1 .bool e noPan (fun r0 => k r0 H')) := lcalls_of hT hm Try.func49 (by kernel_rfl) darningref4_mayWords.ann (Nat.le_of_ble_eq_true (by kernel_rfl)) (e.mpr h)
  exact h1.mono fun _ _ hq => out1_in (fun h => by cases h) hq

def darningref4_MaySize.b (x0 : Int) (H : AH) (k : Bool → AH → Prop) : Prop :=
  bcase (decide ((x0 : Int) ≥ (2 : Int))) (k (decide ((x0 : Int) ≤ (512 : Int))) H) (k false H)
def darningref4_MaySize.ann : Ann := { keep := fun r => match r with  | _ => [], ord := fun r => match r with  | _ => [] }
theorem darningref4_MaySize.link {x0 : Int} {H : AH} {k : Bool → AH → Prop} (h : darningref4_MaySize.b x0 H k) : darningref4_MaySize x0 H k := by
  have e : wpC Try.prog T pan Try.f62.ntmps darningref4_MaySize.ann (Try.f62.body.getD .skip) (argFr [(Value.int .i64 x0)]) H (bodyK T Try.f62.results.toList fun e H' => out1 .bool e noPan (fun r0 => k r0 H')) = darningref4_MaySize.b x0 H k := by kernel_rfl
  have h1 : LCalls Try.prog 62 [(Value.int .i64 x0)] H (fun e H' => out1 .bool e noPan (fun r0 => k r0 H')) := lcalls_of hT hm Try.func62 (by kernel_rfl) darningref4_MaySize.ann (Nat.le_of_ble_eq_true (by kernel_rfl)) (e.mpr h)
  exact h1.mono fun _ _ hq => out1_in (fun h => by cases h) hq

def darningref4_Word.b (x0 : Int) (x1 : Bool) (H : AH) (k : Int → AH → Prop) : Prop :=
  darningref4_MaySize x0 H fun b7 H7 => bcase (!b7) (k (0 : Int) H7) ((0 : Int) ≤ (1 : Int) ∧ bcase x1 (k (orI .u64 (shlI .u64 (IntKind.wrap .u64 x0) (1 : Int)) (1 : Int)) H7) (k (shlI .u64 (IntKind.wrap .u64 x0) (1 : Int)) H7))
def darningref4_Word.ann : Ann := { keep := fun r => match r with  | _ => [], ord := fun r => match r with  | _ => [] }
theorem darningref4_Word.link {x0 : Int} {x1 : Bool} {H : AH} {k : Int → AH → Prop} (h : darningref4_Word.b x0 x1 H k) : darningref4_Word x0 x1 H k := by
  have e : wpC Try.prog T pan Try.f50.ntmps darningref4_Word.ann (Try.f50.body.getD .skip) (argFr [(Value.int .i64 x0), (Value.bool x1)]) H (bodyK T Try.f50.results.toList fun e H' => out1 (.int .u64) e noPan (fun r0 => k r0 H')) = darningref4_Word.b x0 x1 H k := by kernel_rfl
  have h1 : LCalls Try.prog 50 [(Value.int .i64 x0), (Value.bool x1)] H (fun e H' => out1 (.int .u64) e noPan (fun r0 => k r0 H')) := lcalls_of hT hm Try.func50 (by kernel_rfl) darningref4_Word.ann (Nat.le_of_ble_eq_true (by kernel_rfl)) (e.mpr h)
  exact h1.mono fun _ _ hq => out1_in (fun h => by cases h) hq

def darningref4_First.b (x0 : Int) (H : AH) (k : Sl → AH → Prop) : Prop :=
  darningref4_mayWords x0 H fun b5 H5 => bcase (!b5) (k ⟨none, 0, 0⟩ H5) ((0 ≤ x0 ∧ x0 ≤ x0 ∧ x0 ≤ (lim : Int)) ∧ newC H5 ⟨zerosOf (Int.toNat x0) [(Value.int .u64 (0 : Int))], .rw, 1⟩ fun o8 H8 => darningref4_Word x0 false H8 fun n11 H11 => (0 ≤ (0 : Int) ∧ (0 : Int) < (((Int.toNat x0) : Nat) : Int)) ∧ stC H11 (Addr.add ⟨o8, 0, none⟩ (Int.toNat (0 : Int) * 1)) [(Value.int .u64 n11)] fun Hs2 => k ⟨(some ⟨o8, 0, none⟩), (Int.toNat x0), 1⟩ Hs2)
def darningref4_First.ann : Ann := { keep := fun r => match r with  | _ => [], ord := fun r => match r with  | _ => [] }
theorem darningref4_First.link {x0 : Int} {H : AH} {k : Sl → AH → Prop} (h : darningref4_First.b x0 H k) : darningref4_First x0 H k := by
  have e : wpC Try.prog T pan Try.f36.ntmps darningref4_First.ann (Try.f36.body.getD .skip) (argFr [(Value.int .i64 x0)]) H (bodyK T Try.f36.results.toList fun e H' => out1 .sl e noPan (fun r0 => k r0 H')) = darningref4_First.b x0 H k := by kernel_rfl
  have h1 : LCalls Try.prog 36 [(Value.int .i64 x0)] H (fun e H' => out1 .sl e noPan (fun r0 => k r0 H')) := lcalls_of hT hm Try.func36 (by kernel_rfl) darningref4_First.ann (Nat.le_of_ble_eq_true (by kernel_rfl)) (e.mpr h)
  exact h1.mono fun _ _ hq => out1_in (fun h => by cases h) hq

def darningref4_Need.j1 (x0 : Int) (H : AH) (k : Int → AH → Prop) (x8 : Bool) : Prop :=
  bcase x8 (k (0 : Int) H) (((8 : Int) : Int) ≠ 0 ∧ k (IntKind.wrap .i64 ((1 : Int) + (IntKind.wrap .i64 (Int.tdiv (IntKind.wrap .i64 (x0 + (7 : Int))) (8 : Int))))) H)
def darningref4_Need.b (x0 : Int) (H : AH) (k : Int → AH → Prop) : Prop :=
  bcase (decide ((x0 : Int) < (1 : Int))) (darningref4_Need.j1 x0 H k true) (darningref4_Need.j1 x0 H k (decide ((x0 : Int) > (448 : Int))))
def darningref4_Need.ann : Ann := { keep := fun r => match r with  | _ => [], ord := fun r => match r with  | _ => [] }
theorem darningref4_Need.link {x0 : Int} {H : AH} {k : Int → AH → Prop} (h : darningref4_Need.b x0 H k) : darningref4_Need x0 H k := by
  have e : wpC Try.prog T pan Try.f51.ntmps darningref4_Need.ann (Try.f51.body.getD .skip) (argFr [(Value.int .i64 x0)]) H (bodyK T Try.f51.results.toList fun e H' => out1 (.int .i64) e noPan (fun r0 => k r0 H')) = darningref4_Need.b x0 H k := by kernel_rfl
  have h1 : LCalls Try.prog 51 [(Value.int .i64 x0)] H (fun e H' => out1 (.int .i64) e noPan (fun r0 => k r0 H')) := lcalls_of hT hm Try.func51 (by kernel_rfl) darningref4_Need.ann (Nat.le_of_ble_eq_true (by kernel_rfl)) (e.mpr h)
  exact h1.mono fun _ _ hq => out1_in (fun h => by cases h) hq

def darningref4_ParseWord.j1 (x0 : Int) (H : AH) (k : Int → Bool → Bool → AH → Prop) (x12 : Bool) : Prop :=
  bcase x12 (k (0 : Int) false false H) ((0 : Int) ≤ (1 : Int) ∧ k (IntKind.wrap .i64 (shrI .u64 x0 (1 : Int))) (((andI .u64 x0 (1 : Int)) : Int) == (1 : Int)) true H)
def darningref4_ParseWord.b (x0 : Int) (H : AH) (k : Int → Bool → Bool → AH → Prop) : Prop :=
  (0 : Int) ≤ (1 : Int) ∧ bcase (decide (((shrI .u64 x0 (1 : Int)) : Int) < (2 : Int))) (darningref4_ParseWord.j1 x0 H k true) ((0 : Int) ≤ (1 : Int) ∧ darningref4_ParseWord.j1 x0 H k (decide (((shrI .u64 x0 (1 : Int)) : Int) > (512 : Int))))
def darningref4_ParseWord.ann : Ann := { keep := fun r => match r with  | _ => [], ord := fun r => match r with  | _ => [] }
theorem darningref4_ParseWord.link {x0 : Int} {H : AH} {k : Int → Bool → Bool → AH → Prop} (h : darningref4_ParseWord.b x0 H k) : darningref4_ParseWord x0 H k := by
  have e : wpC Try.prog T pan Try.f63.ntmps darningref4_ParseWord.ann (Try.f63.body.getD .skip) (argFr [(Value.int .u64 x0)]) H (bodyK T Try.f63.results.toList fun e H' => out3 (.int .i64) .bool .bool e noPan (fun r0 r1 r2 => k r0 r1 r2 H')) = darningref4_ParseWord.b x0 H k := by kernel_rfl
  have h1 : LCalls Try.prog 63 [(Value.int .u64 x0)] H (fun e H' => out3 (.int .i64) .bool .bool e noPan (fun r0 r1 r2 => k r0 r1 r2 H')) := lcalls_of hT hm Try.func63 (by kernel_rfl) darningref4_ParseWord.ann (Nat.le_of_ble_eq_true (by kernel_rfl)) (e.mpr h)
  exact h1.mono fun _ _ hq => out3_in (fun h => by cases h) (fun h => by cases h) (fun h => by cases h) hq

def darningref4_MayBlocks.j1 (k : Bool → AH → Prop) (t5 : Bool × Int × Int) (it5 : (Bool × Int × Int) → AH → Prop) (o7 : Nat) (x53 : Bool) (Hj : AH) : Prop :=
  bcase x53 (k false Hj) (elI .i64 (AH.cell? Hj (Addr.add ⟨o7, 0, none⟩ 1)) fun n56 => it5 (t5.1, (IntKind.wrap .i64 (t5.2.1 + n56)), (IntKind.wrap .i64 (t5.2.2 + (1 : Int)))) Hj)
def darningref4_MayBlocks.l2 (x0 : Sl) (x1 : Int) (k : Bool → AH → Prop) (t5 : Bool × Int × Int) (HL5 : AH) (it5 : (Bool × Int × Int) → AH → Prop) : Prop :=
  bcase (decide ((t5.2.2 : Int) < ((x0.n : Nat) : Int))) ((0 ≤ t5.2.2 ∧ t5.2.2 < ((x0.n : Nat) : Int)) ∧ onPtr x0.a fun a16 => ldA HL5 (Addr.add a16 (Int.toNat t5.2.2 * 3)) 3 fun c17 => newC HL5 ⟨[(Value.int .i64 (0 : Int)), (Value.int .i64 (0 : Int)), (Value.bool false)], .rw, 0⟩ fun o7 H7 => (List.length c17 = 3 ∧ List.all c17 cellOK = true) ∧ stC H7 ⟨o7, 0, none⟩ c17 fun Hs2 => elI .i64 (AH.cell? Hs2 (Addr.add ⟨o7, 0, none⟩ 0)) fun n19 => bcase ((n19 : Int) != t5.2.1) (darningref4_MayBlocks.j1 k t5 it5 o7 true Hs2) (elI .i64 (AH.cell? Hs2 (Addr.add ⟨o7, 0, none⟩ 1)) fun n24 => darningref4_MaySize n24 Hs2 fun b25 H25 => bcase (!b25) (darningref4_MayBlocks.j1 k t5 it5 o7 true H25) (elI .i64 (AH.cell? H25 (Addr.add ⟨o7, 0, none⟩ 1)) fun n30 => bcase (decide ((n30 : Int) > (IntKind.wrap .i64 (x1 - t5.2.1)))) (darningref4_MayBlocks.j1 k t5 it5 o7 true H25) (bcase (decide ((t5.2.2 : Int) > (0 : Int))) (elB (AH.cell? H25 (Addr.add ⟨o7, 0, none⟩ 2)) fun b41 => bcase (!b41) ((0 ≤ (IntKind.wrap .i64 (t5.2.2 - (1 : Int))) ∧ (IntKind.wrap .i64 (t5.2.2 - (1 : Int))) < ((x0.n : Nat) : Int)) ∧ onPtr x0.a fun a48 => elB (AH.cell? H25 (Addr.add (Addr.add a48 (Int.toNat (IntKind.wrap .i64 (t5.2.2 - (1 : Int))) * 3)) 2)) fun b50 => darningref4_MayBlocks.j1 k t5 it5 o7 (!b50) H25) (darningref4_MayBlocks.j1 k t5 it5 o7 false H25)) (darningref4_MayBlocks.j1 k t5 it5 o7 false H25))))) (k ((t5.2.1 : Int) == x1) HL5)
def darningref4_MayBlocks.b (x0 : Sl) (x1 : Int) (H : AH) (k : Bool → AH → Prop) : Prop :=
  darningref4_mayWords x1 H fun b9 H9 => bcase (!b9) (k false H9) (loopT (darningref4_MayBlocks.l2 x0 x1 k) ((false, (0 : Int), (0 : Int)) : Bool × Int × Int) H9)
def darningref4_MayBlocks.ann : Ann := { keep := fun r => match r with | 5 => [(4, .bool), (5, .int .i64), (13, .int .i64)] | _ => [], ord := fun r => match r with  | _ => [] }
theorem darningref4_MayBlocks.link {x0 : Sl} {x1 : Int} {H : AH} {k : Bool → AH → Prop} (h : darningref4_MayBlocks.b x0 x1 H k) : darningref4_MayBlocks x0 x1 H k := by
  have e : wpC Try.prog T pan Try.f64.ntmps darningref4_MayBlocks.ann (Try.f64.body.getD .skip) (argFr [(Sl.val x0), (Value.int .i64 x1)]) H (bodyK T Try.f64.results.toList fun e H' => out1 .bool e noPan (fun r0 => k r0 H')) = darningref4_MayBlocks.b x0 x1 H k := by kernel_rfl
  have h1 : LCalls Try.prog 64 [(Sl.val x0), (Value.int .i64 x1)] H (fun e H' => out1 .bool e noPan (fun r0 => k r0 H')) := lcalls_of hT hm Try.func64 (by kernel_rfl) darningref4_MayBlocks.ann (Nat.le_of_ble_eq_true (by kernel_rfl)) (e.mpr h)
  exact h1.mono fun _ _ hq => out1_in (fun h => by cases h) hq

def darningref4_Blocks.j1 (x0 : Sl) (k : Sl → Bool → AH → Prop) (t3 : Sl × Bool × Sl × Int) (HL3 : AH) : Prop :=
  darningref4_MayBlocks t3.2.2.1 ((x0.n : Nat) : Int) HL3 fun b37 H37 => bcase (!b37) (k ⟨none, 0, 0⟩ false H37) (k t3.2.2.1 true H37)
def darningref4_Blocks.l2 (x0 : Sl) (k : Sl → Bool → AH → Prop) (t3 : Sl × Bool × Sl × Int) (HL3 : AH) (it3 : (Sl × Bool × Sl × Int) → AH → Prop) : Prop :=
  bcase (decide ((t3.2.2.2 : Int) < ((x0.n : Nat) : Int))) ((0 ≤ t3.2.2.2 ∧ t3.2.2.2 < ((x0.n : Nat) : Int)) ∧ onPtr x0.a fun a16 => elI .u64 (AH.cell? HL3 (Addr.add a16 (Int.toNat t3.2.2.2 * 1))) fun n17 => darningref4_ParseWord n17 HL3 fun n18a b18b b18c H18 => bcase (!b18c) (k ⟨none, 0, 0⟩ false H18) ((List.length [(Value.int .i64 t3.2.2.2), (Value.int .i64 n18a), (Value.bool b18b)] = 3) ∧ newC H18 ⟨[(Value.int .i64 t3.2.2.2), (Value.int .i64 n18a), (Value.bool b18b)], .rw, 3⟩ fun o29 H29 => appendC 3 H29 t3.2.2.1 ⟨(some ⟨o29, 0, none⟩), 1, 1⟩ fun s30 H30 => it3 (t3.1, t3.2.1, s30, (IntKind.wrap .i64 (t3.2.2.2 + n18a))) H30)) (darningref4_Blocks.j1 x0 k t3 HL3)
def darningref4_Blocks.b (x0 : Sl) (H : AH) (k : Sl → Bool → AH → Prop) : Prop :=
  loopT (darningref4_Blocks.l2 x0 k) ((⟨none, 0, 0⟩, false, ⟨none, 0, 0⟩, (0 : Int)) : Sl × Bool × Sl × Int) H
def darningref4_Blocks.ann : Ann := { keep := fun r => match r with | 3 => [(2, .sl), (3, .bool), (4, .sl), (5, .int .i64)] | _ => [], ord := fun r => match r with  | _ => [] }
theorem darningref4_Blocks.link {x0 : Sl} {H : AH} {k : Sl → Bool → AH → Prop} (h : darningref4_Blocks.b x0 H k) : darningref4_Blocks x0 H k := by
  have e : wpC Try.prog T pan Try.f52.ntmps darningref4_Blocks.ann (Try.f52.body.getD .skip) (argFr [(Sl.val x0)]) H (bodyK T Try.f52.results.toList fun e H' => out2 .sl .bool e noPan (fun r0 r1 => k r0 r1 H')) = darningref4_Blocks.b x0 H k := by kernel_rfl
  have h1 : LCalls Try.prog 52 [(Sl.val x0)] H (fun e H' => out2 .sl .bool e noPan (fun r0 r1 => k r0 r1 H')) := lcalls_of hT hm Try.func52 (by kernel_rfl) darningref4_Blocks.ann (Nat.le_of_ble_eq_true (by kernel_rfl)) (e.mpr h)
  exact h1.mono fun _ _ hq => out2_in (fun h => by cases h) (fun h => by cases h) hq

def darningref4_Fits.j1 (t5 : Sl × Int) (it5 : (Sl × Int) → AH → Prop) (Hs2 : AH) (x5 : Sl) (x54 : Bool) : Prop :=
  bcase x54 (newC Hs2 ⟨[(Value.int .i64 t5.2)], .rw, 1⟩ fun o57 H57 => appendC 1 H57 x5 ⟨(some ⟨o57, 0, none⟩), 1, 1⟩ fun s58 H58 => it5 (s58, (IntKind.wrap .i64 (t5.2 + (1 : Int)))) H58) (it5 (x5, (IntKind.wrap .i64 (t5.2 + (1 : Int)))) Hs2)
def darningref4_Fits.j2 (x0 : Sl) (t5 : Sl × Int) (it5 : (Sl × Int) → AH → Prop) (o7 : Nat) (Hs2 : AH) (x5 : Sl) : Prop :=
  bcase ((((x5.n : Nat) : Int) : Int) == (0 : Int)) (darningref4_Fits.j1 t5 it5 Hs2 x5 true) ((0 ≤ (0 : Int) ∧ (0 : Int) < ((x5.n : Nat) : Int)) ∧ onPtr x5.a fun a46 => elI .i64 (AH.cell? Hs2 (Addr.add a46 (Int.toNat (0 : Int) * 1))) fun n47 => (0 ≤ n47 ∧ n47 < ((x0.n : Nat) : Int)) ∧ onPtr x0.a fun a48 => elI .i64 (AH.cell? Hs2 (Addr.add (Addr.add a48 (Int.toNat n47 * 3)) 1)) fun n50 => elI .i64 (AH.cell? Hs2 (Addr.add ⟨o7, 0, none⟩ 1)) fun n52 => darningref4_Fits.j1 t5 it5 Hs2 x5 ((n50 : Int) == n52))
def darningref4_Fits.j3 (x0 : Sl) (t5 : Sl × Int) (it5 : (Sl × Int) → AH → Prop) (o7 : Nat) (Hs2 : AH) (x39 : Bool) : Prop :=
  bcase x39 (darningref4_Fits.j2 x0 t5 it5 o7 Hs2 ⟨none, 0, 0⟩) (darningref4_Fits.j2 x0 t5 it5 o7 Hs2 t5.1)
def darningref4_Fits.j4 (x0 : Sl) (t5 : Sl × Int) (it5 : (Sl × Int) → AH → Prop) (o7 : Nat) (Hs2 : AH) (x24 : Bool) : Prop :=
  bcase x24 (it5 (t5.1, (IntKind.wrap .i64 (t5.2 + (1 : Int)))) Hs2) (bcase (decide ((((t5.1.n : Nat) : Int) : Int) > (0 : Int))) ((0 ≤ (0 : Int) ∧ (0 : Int) < ((t5.1.n : Nat) : Int)) ∧ onPtr t5.1.a fun a31 => elI .i64 (AH.cell? Hs2 (Addr.add a31 (Int.toNat (0 : Int) * 1))) fun n32 => (0 ≤ n32 ∧ n32 < ((x0.n : Nat) : Int)) ∧ onPtr x0.a fun a33 => elI .i64 (AH.cell? Hs2 (Addr.add (Addr.add a33 (Int.toNat n32 * 3)) 1)) fun n35 => elI .i64 (AH.cell? Hs2 (Addr.add ⟨o7, 0, none⟩ 1)) fun n37 => darningref4_Fits.j3 x0 t5 it5 o7 Hs2 (decide ((n35 : Int) > n37))) (darningref4_Fits.j3 x0 t5 it5 o7 Hs2 false))
def darningref4_Fits.l5 (x0 : Sl) (x1 : Int) (k : Sl → AH → Prop) (t5 : Sl × Int) (HL5 : AH) (it5 : (Sl × Int) → AH → Prop) : Prop :=
  bcase (decide ((t5.2 : Int) < ((x0.n : Nat) : Int))) ((0 ≤ t5.2 ∧ t5.2 < ((x0.n : Nat) : Int)) ∧ onPtr x0.a fun a15 => ldA HL5 (Addr.add a15 (Int.toNat t5.2 * 3)) 3 fun c16 => newC HL5 ⟨[(Value.int .i64 (0 : Int)), (Value.int .i64 (0 : Int)), (Value.bool false)], .rw, 0⟩ fun o7 H7 => (List.length c16 = 3 ∧ List.all c16 cellOK = true) ∧ stC H7 ⟨o7, 0, none⟩ c16 fun Hs2 => elB (AH.cell? Hs2 (Addr.add ⟨o7, 0, none⟩ 2)) fun b18 => bcase b18 (darningref4_Fits.j4 x0 t5 it5 o7 Hs2 true) (elI .i64 (AH.cell? Hs2 (Addr.add ⟨o7, 0, none⟩ 1)) fun n21 => darningref4_Fits.j4 x0 t5 it5 o7 Hs2 (decide ((n21 : Int) < x1)))) (k t5.1 HL5)
def darningref4_Fits.b (x0 : Sl) (x1 : Int) (H : AH) (k : Sl → AH → Prop) : Prop :=
  bcase (decide ((x1 : Int) < (2 : Int))) (k ⟨none, 0, 0⟩ H) (loopT (darningref4_Fits.l5 x0 x1 k) ((⟨none, 0, 0⟩, (0 : Int)) : Sl × Int) H)
def darningref4_Fits.ann : Ann := { keep := fun r => match r with | 5 => [(5, .sl), (12, .int .i64)] | _ => [], ord := fun r => match r with | 8 => [0, 1, 2, 3, 4, 5, 6, 7, 8, 9, 10, 11, 12, 13, 14] | 10 => [0, 1, 2, 3, 4, 5, 6, 7, 8, 9, 10, 11, 12, 13, 14] | _ => [] }
theorem darningref4_Fits.link {x0 : Sl} {x1 : Int} {H : AH} {k : Sl → AH → Prop} (h : darningref4_Fits.b x0 x1 H k) : darningref4_Fits x0 x1 H k := by
  have e : wpC Try.prog T pan Try.f65.ntmps darningref4_Fits.ann (Try.f65.body.getD .skip) (argFr [(Sl.val x0), (Value.int .i64 x1)]) H (bodyK T Try.f65.results.toList fun e H' => out1 .sl e noPan (fun r0 => k r0 H')) = darningref4_Fits.b x0 x1 H k := by kernel_rfl
  have h1 : LCalls Try.prog 65 [(Sl.val x0), (Value.int .i64 x1)] H (fun e H' => out1 .sl e noPan (fun r0 => k r0 H')) := lcalls_of hT hm Try.func65 (by kernel_rfl) darningref4_Fits.ann (Nat.le_of_ble_eq_true (by kernel_rfl)) (e.mpr h)
  exact h1.mono fun _ _ hq => out1_in (fun h => by cases h) hq

def darningref4_countAt.j1 (x0 : Int) (x1 : Sl) (H : AH) (k : Int → AH → Prop) (x13 : Bool) : Prop :=
  bcase x13 (k (0 : Int) H) (((32 : Int) : Int) ≠ 0 ∧ (0 ≤ (IntKind.wrap .i64 (Int.tdiv x0 (32 : Int))) ∧ (IntKind.wrap .i64 (Int.tdiv x0 (32 : Int))) < ((x1.n : Nat) : Int)) ∧ onPtr x1.a fun a17 => elI .i64 (AH.cell? H (Addr.add a17 (Int.toNat (IntKind.wrap .i64 (Int.tdiv x0 (32 : Int))) * 1))) fun n18 => k n18 H)
def darningref4_countAt.b (x0 : Int) (x1 : Sl) (H : AH) (k : Int → AH → Prop) : Prop :=
  bcase (decide ((x0 : Int) < (0 : Int))) (darningref4_countAt.j1 x0 x1 H k true) (((32 : Int) : Int) ≠ 0 ∧ darningref4_countAt.j1 x0 x1 H k (decide (((IntKind.wrap .i64 (Int.tdiv x0 (32 : Int))) : Int) ≥ ((x1.n : Nat) : Int))))
def darningref4_countAt.ann : Ann := { keep := fun r => match r with  | _ => [], ord := fun r => match r with  | _ => [] }
theorem darningref4_countAt.link {x0 : Int} {x1 : Sl} {H : AH} {k : Int → AH → Prop} (h : darningref4_countAt.b x0 x1 H k) : darningref4_countAt x0 x1 H k := by
  have e : wpC Try.prog T pan Try.f66.ntmps darningref4_countAt.ann (Try.f66.body.getD .skip) (argFr [(Value.int .i64 x0), (Sl.val x1)]) H (bodyK T Try.f66.results.toList fun e H' => out1 (.int .i64) e noPan (fun r0 => k r0 H')) = darningref4_countAt.b x0 x1 H k := by kernel_rfl
  have h1 : LCalls Try.prog 66 [(Value.int .i64 x0), (Sl.val x1)] H (fun e H' => out1 (.int .i64) e noPan (fun r0 => k r0 H')) := lcalls_of hT hm Try.func66 (by kernel_rfl) darningref4_countAt.ann (Nat.le_of_ble_eq_true (by kernel_rfl)) (e.mpr h)
  exact h1.mono fun _ _ hq => out1_in (fun h => by cases h) hq

def darningref4_Choose.j1 (t3 : Int × Int) (it3 : (Int × Int) → AH → Prop) (n17 : Int) (x66 : Bool) (Hj : AH) : Prop :=
  bcase x66 (it3 (n17, (IntKind.wrap .i64 (t3.2 + (1 : Int)))) Hj) (it3 (t3.1, (IntKind.wrap .i64 (t3.2 + (1 : Int)))) Hj)
def darningref4_Choose.l2 (x0 : Sl) (x2 : Sl) (k : Int → AH → Prop) (s12 : Sl) (t3 : Int × Int) (HL3 : AH) (it3 : (Int × Int) → AH → Prop) : Prop :=
  bcase (decide ((t3.2 : Int) < ((s12.n : Nat) : Int))) ((0 ≤ t3.2 ∧ t3.2 < ((s12.n : Nat) : Int)) ∧ onPtr s12.a fun a16 => elI .i64 (AH.cell? HL3 (Addr.add a16 (Int.toNat t3.2 * 1))) fun n17 => bcase (decide ((t3.1 : Int) < (0 : Int))) (darningref4_Choose.j1 t3 it3 n17 true HL3) ((0 ≤ n17 ∧ n17 < ((x0.n : Nat) : Int)) ∧ onPtr x0.a fun a23 => elI .i64 (AH.cell? HL3 (Addr.add (Addr.add a23 (Int.toNat n17 * 3)) 0)) fun n25 => (0 ≤ t3.1 ∧ t3.1 < ((x0.n : Nat) : Int)) ∧ onPtr x0.a fun a30 => elI .i64 (AH.cell? HL3 (Addr.add (Addr.add a30 (Int.toNat t3.1 * 3)) 0)) fun n32 => darningref4_countAt n25 x2 HL3 fun n27 H27 => AH.cell? H27 (Addr.add (Addr.add a30 (Int.toNat t3.1 * 3)) 0) = some (Value.int .i64 n32) ∧ darningref4_countAt n32 x2 H27 fun n34 H34 => bcase (decide ((n27 : Int) < n34)) (darningref4_Choose.j1 t3 it3 n17 true H34) ((0 ≤ n17 ∧ n17 < ((x0.n : Nat) : Int)) ∧ onPtr x0.a fun a40 => elI .i64 (AH.cell? H34 (Addr.add (Addr.add a40 (Int.toNat n17 * 3)) 0)) fun n42 => (0 ≤ t3.1 ∧ t3.1 < ((x0.n : Nat) : Int)) ∧ onPtr x0.a fun a47 => elI .i64 (AH.cell? H34 (Addr.add (Addr.add a47 (Int.toNat t3.1 * 3)) 0)) fun n49 => darningref4_countAt n42 x2 H34 fun n44 H44 => AH.cell? H44 (Addr.add (Addr.add a47 (Int.toNat t3.1 * 3)) 0) = some (Value.int .i64 n49) ∧ darningref4_countAt n49 x2 H44 fun n51 H51 => bcase ((n44 : Int) == n51) ((0 ≤ n17 ∧ n17 < ((x0.n : Nat) : Int)) ∧ onPtr x0.a fun a56 => elI .i64 (AH.cell? H51 (Addr.add (Addr.add a56 (Int.toNat n17 * 3)) 0)) fun n58 => (0 ≤ t3.1 ∧ t3.1 < ((x0.n : Nat) : Int)) ∧ onPtr x0.a fun a61 => elI .i64 (AH.cell? H51 (Addr.add (Addr.add a61 (Int.toNat t3.1 * 3)) 0)) fun n63 => darningref4_Choose.j1 t3 it3 n17 (decide ((n58 : Int) < n63)) H51) (darningref4_Choose.j1 t3 it3 n17 false H51)))) (k t3.1 HL3)
def darningref4_Choose.b (x0 : Sl) (x1 : Int) (x2 : Sl) (H : AH) (k : Int → AH → Prop) : Prop :=
  darningref4_Fits x0 x1 H fun s12 H12 => loopT (darningref4_Choose.l2 x0 x2 k s12) (((-1 : Int), (0 : Int)) : Int × Int) H12
def darningref4_Choose.ann : Ann := { keep := fun r => match r with | 3 => [(7, .int .i64), (14, .int .i64)] | _ => [], ord := fun r => match r with | 5 => [0, 1, 2, 3, 4, 5, 6, 7, 8, 10, 11, 12, 13, 14, 15, 9, 16, 17, 18, 19, 20, 21, 22, 23, 24, 25, 27, 28, 29, 30, 31, 32, 26, 33, 34, 35, 36, 37, 38, 39, 40, 41, 42, 43, 44, 45, 46, 47, 48] | _ => [] }
theorem darningref4_Choose.link {x0 : Sl} {x1 : Int} {x2 : Sl} {H : AH} {k : Int → AH → Prop} (h : darningref4_Choose.b x0 x1 x2 H k) : darningref4_Choose x0 x1 x2 H k := by
  have e : wpC Try.prog T pan Try.f53.ntmps darningref4_Choose.ann (Try.f53.body.getD .skip) (argFr [(Sl.val x0), (Value.int .i64 x1), (Sl.val x2)]) H (bodyK T Try.f53.results.toList fun e H' => out1 (.int .i64) e noPan (fun r0 => k r0 H')) = darningref4_Choose.b x0 x1 x2 H k := by kernel_rfl
  have h1 : LCalls Try.prog 53 [(Sl.val x0), (Value.int .i64 x1), (Sl.val x2)] H (fun e H' => out1 (.int .i64) e noPan (fun r0 => k r0 H')) := lcalls_of hT hm Try.func53 (by kernel_rfl) darningref4_Choose.ann (Nat.le_of_ble_eq_true (by kernel_rfl)) (e.mpr h)
  exact h1.mono fun _ _ hq => out1_in (fun h => by cases h) hq

def darningref4_sizes.j1 (k : Int → AH → Prop) (t3 : Int × Int × Int) (it3 : (Int × Int × Int) → AH → Prop) (o5 : Nat) (Hs2 : AH) (x19 : Bool) : Prop :=
  bcase x19 (k (0 : Int) Hs2) (elI .i64 (AH.cell? Hs2 (Addr.add ⟨o5, 0, none⟩ 1)) fun n22 => it3 (t3.1, (IntKind.wrap .i64 (t3.2.1 + n22)), (IntKind.wrap .i64 (t3.2.2 + (1 : Int)))) Hs2)
def darningref4_sizes.l2 (x0 : Sl) (k : Int → AH → Prop) (t3 : Int × Int × Int) (HL3 : AH) (it3 : (Int × Int × Int) → AH → Prop) : Prop :=
  bcase (decide ((t3.2.2 : Int) < ((x0.n : Nat) : Int))) ((0 ≤ t3.2.2 ∧ t3.2.2 < ((x0.n : Nat) : Int)) ∧ onPtr x0.a fun a10 => ldA HL3 (Addr.add a10 (Int.toNat t3.2.2 * 3)) 3 fun c11 => newC HL3 ⟨[(Value.int .i64 (0 : Int)), (Value.int .i64 (0 : Int)), (Value.bool false)], .rw, 0⟩ fun o5 H5 => (List.length c11 = 3 ∧ List.all c11 cellOK = true) ∧ stC H5 ⟨o5, 0, none⟩ c11 fun Hs2 => elI .i64 (AH.cell? Hs2 (Addr.add ⟨o5, 0, none⟩ 1)) fun n13 => bcase (decide ((n13 : Int) < (0 : Int))) (darningref4_sizes.j1 k t3 it3 o5 Hs2 true) (elI .i64 (AH.cell? Hs2 (Addr.add ⟨o5, 0, none⟩ 1)) fun n17 => darningref4_sizes.j1 k t3 it3 o5 Hs2 (decide ((n17 : Int) > (1000 : Int))))) (k t3.2.1 HL3)
def darningref4_sizes.b (x0 : Sl) (H : AH) (k : Int → AH → Prop) : Prop :=
  loopT (darningref4_sizes.l2 x0 k) (((0 : Int), (0 : Int), (0 : Int)) : Int × Int × Int) H
def darningref4_sizes.ann : Ann := { keep := fun r => match r with | 3 => [(2, .int .i64), (3, .int .i64), (8, .int .i64)] | _ => [], ord := fun r => match r with  | _ => [] }
theorem darningref4_sizes.link {x0 : Sl} {H : AH} {k : Int → AH → Prop} (h : darningref4_sizes.b x0 H k) : darningref4_sizes x0 H k := by
  have e : wpC Try.prog T pan Try.f69.ntmps darningref4_sizes.ann (Try.f69.body.getD .skip) (argFr [(Sl.val x0)]) H (bodyK T Try.f69.results.toList fun e H' => out1 (.int .i64) e noPan (fun r0 => k r0 H')) = darningref4_sizes.b x0 H k := by kernel_rfl
  have h1 : LCalls Try.prog 69 [(Sl.val x0)] H (fun e H' => out1 (.int .i64) e noPan (fun r0 => k r0 H')) := lcalls_of hT hm Try.func69 (by kernel_rfl) darningref4_sizes.ann (Nat.le_of_ble_eq_true (by kernel_rfl)) (e.mpr h)
  exact h1.mono fun _ _ hq => out1_in (fun h => by cases h) hq

def darningref4_Takes.j1 (x0 : Int) (x1 : Int) (H : AH) (k : Int → AH → Prop) (x5 : Bool) : Prop :=
  bcase x5 (k (0 : Int) H) (bcase (decide (((IntKind.wrap .i64 (x0 - x1)) : Int) < (2 : Int))) (k x0 H) (k x1 H))
def darningref4_Takes.b (x0 : Int) (x1 : Int) (H : AH) (k : Int → AH → Prop) : Prop :=
  bcase (decide ((x1 : Int) < (2 : Int))) (darningref4_Takes.j1 x0 x1 H k true) (darningref4_Takes.j1 x0 x1 H k (decide ((x1 : Int) > x0)))
def darningref4_Takes.ann : Ann := { keep := fun r => match r with  | _ => [], ord := fun r => match r with  | _ => [] }
theorem darningref4_Takes.link {x0 : Int} {x1 : Int} {H : AH} {k : Int → AH → Prop} (h : darningref4_Takes.b x0 x1 H k) : darningref4_Takes x0 x1 H k := by
  have e : wpC Try.prog T pan Try.f68.ntmps darningref4_Takes.ann (Try.f68.body.getD .skip) (argFr [(Value.int .i64 x0), (Value.int .i64 x1)]) H (bodyK T Try.f68.results.toList fun e H' => out1 (.int .i64) e noPan (fun r0 => k r0 H')) = darningref4_Takes.b x0 x1 H k := by kernel_rfl
  have h1 : LCalls Try.prog 68 [(Value.int .i64 x0), (Value.int .i64 x1)] H (fun e H' => out1 (.int .i64) e noPan (fun r0 => k r0 H')) := lcalls_of hT hm Try.func68 (by kernel_rfl) darningref4_Takes.ann (Nat.le_of_ble_eq_true (by kernel_rfl)) (e.mpr h)
  exact h1.mono fun _ _ hq => out1_in (fun h => by cases h) hq

def darningref4_Carved.j1 (x0 : Sl) (x1 : Int) (k : Sl → Bool → AH → Prop) (x9 : Sl) (Hj : AH) : Prop :=
  (0 ≤ (IntKind.wrap .i64 (x1 + (1 : Int))) ∧ (IntKind.wrap .i64 (x1 + (1 : Int))) ≤ ((x0.n : Nat) : Int)) ∧ appendC 3 Hj x9 ⟨(Option.map (fun x => Addr.add x (Int.toNat (IntKind.wrap .i64 (x1 + (1 : Int))) * 3)) x0.a), (x0.n - Int.toNat (IntKind.wrap .i64 (x1 + (1 : Int)))), 0⟩ fun s92 H92 => k s92 true H92
def darningref4_Carved.j2 (x0 : Sl) (x1 : Int) (x2 : Int) (k : Sl → Bool → AH → Prop) (x41 : Bool) (Hj : AH) : Prop :=
  bcase x41 (k ⟨none, 0, 0⟩ false Hj) ((0 ≤ x1 ∧ x1 < ((x0.n : Nat) : Int)) ∧ onPtr x0.a fun a44 => elI .i64 (AH.cell? Hj (Addr.add (Addr.add a44 (Int.toNat x1 * 3)) 1)) fun n46 => darningref4_Takes n46 x2 Hj fun n48 H48 => (0 ≤ x1 ∧ x1 ≤ ((x0.n : Nat) : Int)) ∧ (0 ≤ x1 ∧ x1 < ((x0.n : Nat) : Int)) ∧ onPtr x0.a fun a55 => elI .i64 (AH.cell? H48 (Addr.add (Addr.add a55 (Int.toNat x1 * 3)) 0)) fun n57 => (List.length [(Value.int .i64 n57), (Value.int .i64 n48), (Value.bool true)] = 3) ∧ newC H48 ⟨[(Value.int .i64 n57), (Value.int .i64 n48), (Value.bool true)], .rw, 3⟩ fun o60 H60 => appendC 3 H60 ⟨none, 0, 0⟩ ⟨x0.a, (Int.toNat x1), 0⟩ fun s52 H52 => AH.cell? H52 (Addr.add (Addr.add a55 (Int.toNat x1 * 3)) 0) = some (Value.int .i64 n57) ∧ appendC 3 H52 s52 ⟨(some ⟨o60, 0, none⟩), 1, 1⟩ fun s61 H61 => (0 ≤ x1 ∧ x1 < ((x0.n : Nat) : Int)) ∧ onPtr x0.a fun a65 => elI .i64 (AH.cell? H61 (Addr.add (Addr.add a65 (Int.toNat x1 * 3)) 1)) fun n67 => bcase (decide ((n48 : Int) < n67)) ((0 ≤ x1 ∧ x1 < ((x0.n : Nat) : Int)) ∧ onPtr x0.a fun a72 => elI .i64 (AH.cell? H61 (Addr.add (Addr.add a72 (Int.toNat x1 * 3)) 0)) fun n74 => (0 ≤ x1 ∧ x1 < ((x0.n : Nat) : Int)) ∧ onPtr x0.a fun a79 => elI .i64 (AH.cell? H61 (Addr.add (Addr.add a79 (Int.toNat x1 * 3)) 1)) fun n81 => (List.length [(Value.int .i64 (IntKind.wrap .i64 (n74 + n48))), (Value.int .i64 (IntKind.wrap .i64 (n81 - n48))), (Value.bool false)] = 3) ∧ newC H61 ⟨[(Value.int .i64 (IntKind.wrap .i64 (n74 + n48))), (Value.int .i64 (IntKind.wrap .i64 (n81 - n48))), (Value.bool false)], .rw, 3⟩ fun o85 H85 => appendC 3 H85 s61 ⟨(some ⟨o85, 0, none⟩), 1, 1⟩ fun s86 H86 => darningref4_Carved.j1 x0 x1 k s86 H86) (darningref4_Carved.j1 x0 x1 k s61 H61))
def darningref4_Carved.b (x0 : Sl) (x1 : Int) (x2 : Int) (H : AH) (k : Sl → Bool → AH → Prop) : Prop :=
  darningref4_sizes x0 H fun n12 H12 => darningref4_MayBlocks x0 n12 H12 fun b13 H13 => bcase (!b13) (darningref4_Carved.j2 x0 x1 x2 k true H13) (bcase (decide ((x1 : Int) < (0 : Int))) (darningref4_Carved.j2 x0 x1 x2 k true H13) (bcase (decide ((x1 : Int) ≥ ((x0.n : Nat) : Int))) (darningref4_Carved.j2 x0 x1 x2 k true H13) ((0 ≤ x1 ∧ x1 < ((x0.n : Nat) : Int)) ∧ onPtr x0.a fun a28 => elB (AH.cell? H13 (Addr.add (Addr.add a28 (Int.toNat x1 * 3)) 2)) fun b30 => bcase b30 (darningref4_Carved.j2 x0 x1 x2 k true H13) ((0 ≤ x1 ∧ x1 < ((x0.n : Nat) : Int)) ∧ onPtr x0.a fun a35 => elI .i64 (AH.cell? H13 (Addr.add (Addr.add a35 (Int.toNat x1 * 3)) 1)) fun n37 => darningref4_Takes n37 x2 H13 fun n39 H39 => darningref4_Carved.j2 x0 x1 x2 k ((n39 : Int) == (0 : Int)) H39))))
def darningref4_Carved.ann : Ann := { keep := fun r => match r with  | _ => [], ord := fun r => match r with | 4 => [0, 1, 2, 4, 5, 6, 7, 8, 9, 10, 11, 3, 12, 13] | 6 => [0, 1, 2, 3, 4, 5, 6, 7, 8, 9, 10, 11, 12, 13, 14, 15, 16, 17, 18] | _ => [] }
theorem darningref4_Carved.link {x0 : Sl} {x1 : Int} {x2 : Int} {H : AH} {k : Sl → Bool → AH → Prop} (h : darningref4_Carved.b x0 x1 x2 H k) : darningref4_Carved x0 x1 x2 H k := by
  have e : wpC Try.prog T pan Try.f67.ntmps darningref4_Carved.ann (Try.f67.body.getD .skip) (argFr [(Sl.val x0), (Value.int .i64 x1), (Value.int .i64 x2)]) H (bodyK T Try.f67.results.toList fun e H' => out2 .sl .bool e noPan (fun r0 r1 => k r0 r1 H')) = darningref4_Carved.b x0 x1 x2 H k := by kernel_rfl
  have h1 : LCalls Try.prog 67 [(Sl.val x0), (Value.int .i64 x1), (Value.int .i64 x2)] H (fun e H' => out2 .sl .bool e noPan (fun r0 r1 => k r0 r1 H')) := lcalls_of hT hm Try.func67 (by kernel_rfl) darningref4_Carved.ann (Nat.le_of_ble_eq_true (by kernel_rfl)) (e.mpr h)
  exact h1.mono fun _ _ hq => out2_in (fun h => by cases h) (fun h => by cases h) hq

def darningref4_CarveEdits.j1 (x0 : Sl) (x1 : Int) (k : Sl → AH → Prop) (n27 : Int) (t7 : Sl × Int) (HL7 : AH) : Prop :=
  (0 ≤ x1 ∧ x1 < ((x0.n : Nat) : Int)) ∧ onPtr x0.a fun a56 => elI .i64 (AH.cell? HL7 (Addr.add (Addr.add a56 (Int.toNat x1 * 3)) 1)) fun n58 => bcase (decide ((n27 : Int) < n58)) ((0 ≤ x1 ∧ x1 < ((x0.n : Nat) : Int)) ∧ onPtr x0.a fun a63 => elI .i64 (AH.cell? HL7 (Addr.add (Addr.add a63 (Int.toNat x1 * 3)) 0)) fun n65 => (0 ≤ x1 ∧ x1 < ((x0.n : Nat) : Int)) ∧ onPtr x0.a fun a70 => elI .i64 (AH.cell? HL7 (Addr.add (Addr.add a70 (Int.toNat x1 * 3)) 1)) fun n72 => darningref4_Word (IntKind.wrap .i64 (n72 - n27)) false HL7 fun n75 H75 => AH.cell? H75 (Addr.add (Addr.add a63 (Int.toNat x1 * 3)) 0) = some (Value.int .i64 n65) ∧ (List.length [(Value.int .i64 (IntKind.wrap .i64 (n65 + n27))), (Value.int .u64 n75)] = 2) ∧ newC H75 ⟨[(Value.int .i64 (IntKind.wrap .i64 (n65 + n27))), (Value.int .u64 n75)], .rw, 2⟩ fun o77 H77 => appendC 2 H77 t7.1 ⟨(some ⟨o77, 0, none⟩), 1, 1⟩ fun s78 H78 => k s78 H78) (k t7.1 HL7)
def darningref4_CarveEdits.l2 (x0 : Sl) (x1 : Int) (k : Sl → AH → Prop) (n27 : Int) (t7 : Sl × Int) (HL7 : AH) (it7 : (Sl × Int) → AH → Prop) : Prop :=
  bcase (decide ((t7.2 : Int) < n27)) ((0 ≤ x1 ∧ x1 < ((x0.n : Nat) : Int)) ∧ onPtr x0.a fun a45 => elI .i64 (AH.cell? HL7 (Addr.add (Addr.add a45 (Int.toNat x1 * 3)) 0)) fun n47 => (List.length [(Value.int .i64 (IntKind.wrap .i64 (n47 + t7.2))), (Value.int .u64 (0 : Int))] = 2) ∧ newC HL7 ⟨[(Value.int .i64 (IntKind.wrap .i64 (n47 + t7.2))), (Value.int .u64 (0 : Int))], .rw, 2⟩ fun o51 H51 => appendC 2 H51 t7.1 ⟨(some ⟨o51, 0, none⟩), 1, 1⟩ fun s52 H52 => it7 (s52, (IntKind.wrap .i64 (t7.2 + (1 : Int)))) H52) (darningref4_CarveEdits.j1 x0 x1 k n27 t7 HL7)
def darningref4_CarveEdits.b (x0 : Sl) (x1 : Int) (x2 : Int) (H : AH) (k : Sl → AH → Prop) : Prop :=
  darningref4_Carved x0 x1 x2 H fun s16a b16b H16 => bcase (!b16b) (k ⟨none, 0, 0⟩ H16) ((0 ≤ x1 ∧ x1 < ((x0.n : Nat) : Int)) ∧ onPtr x0.a fun a23 => elI .i64 (AH.cell? H16 (Addr.add (Addr.add a23 (Int.toNat x1 * 3)) 1)) fun n25 => darningref4_Takes n25 x2 H16 fun n27 H27 => (0 ≤ x1 ∧ x1 < ((x0.n : Nat) : Int)) ∧ onPtr x0.a fun a30 => elI .i64 (AH.cell? H27 (Addr.add (Addr.add a30 (Int.toNat x1 * 3)) 0)) fun n32 => darningref4_Word n27 true H27 fun n34 H34 => AH.cell? H34 (Addr.add (Addr.add a30 (Int.toNat x1 * 3)) 0) = some (Value.int .i64 n32) ∧ (List.length [(Value.int .i64 n32), (Value.int .u64 n34)] = 2) ∧ newC H34 ⟨[(Value.int .i64 n32), (Value.int .u64 n34)], .rw, 2⟩ fun o36 H36 => loopT (darningref4_CarveEdits.l2 x0 x1 k n27) ((⟨(some ⟨o36, 0, none⟩), 1, 1⟩, (1 : Int)) : Sl × Int) H36)
def darningref4_CarveEdits.ann : Ann := { keep := fun r => match r with | 7 => [(10, .sl), (11, .int .i64)] | _ => [], ord := fun r => match r with | 5 => [0, 1, 2, 3, 4, 5, 6, 7, 8, 9] | 11 => [0, 1, 2, 3, 4, 5, 6, 7, 8, 9, 10, 11, 12, 13, 14, 15, 16, 17, 18, 19] | _ => [] }
theorem darningref4_CarveEdits.link {x0 : Sl} {x1 : Int} {x2 : Int} {H : AH} {k : Sl → AH → Prop} (h : darningref4_CarveEdits.b x0 x1 x2 H k) : darningref4_CarveEdits x0 x1 x2 H k := by
  have e : wpC Try.prog T pan Try.f54.ntmps darningref4_CarveEdits.ann (Try.f54.body.getD .skip) (argFr [(Sl.val x0), (Value.int .i64 x1), (Value.int .i64 x2)]) H (bodyK T Try.f54.results.toList fun e H' => out1 .sl e noPan (fun r0 => k r0 H')) = darningref4_CarveEdits.b x0 x1 x2 H k := by kernel_rfl
  have h1 : LCalls Try.prog 54 [(Sl.val x0), (Value.int .i64 x1), (Value.int .i64 x2)] H (fun e H' => out1 .sl e noPan (fun r0 => k r0 H')) := lcalls_of hT hm Try.func54 (by kernel_rfl) darningref4_CarveEdits.ann (Nat.le_of_ble_eq_true (by kernel_rfl)) (e.mpr h)
  exact h1.mono fun _ _ hq => out1_in (fun h => by cases h) hq

def darningref4_Off.j1 (k : Int → AH → Prop) (o1 : Nat) (H1 : AH) (x10 : Bool) : Prop :=
  bcase x10 (k (0 : Int) H1) (elI .i64 (AH.cell? H1 (Addr.add ⟨o1, 0, none⟩ 0)) fun n12 => k (IntKind.wrap .i64 ((IntKind.wrap .i64 (n12 + (1 : Int))) * (8 : Int))) H1)
def darningref4_Off.b (x0 : List Value) (H : AH) (k : Int → AH → Prop) : Prop :=
  newC H ⟨x0, .rw, 0⟩ fun o1 H1 => elI .i64 (AH.cell? H1 (Addr.add ⟨o1, 0, none⟩ 0)) fun n4 => bcase (decide ((n4 : Int) < (0 : Int))) (darningref4_Off.j1 k o1 H1 true) (elI .i64 (AH.cell? H1 (Addr.add ⟨o1, 0, none⟩ 0)) fun n8 => darningref4_Off.j1 k o1 H1 (decide ((n8 : Int) > (512 : Int))))
def darningref4_Off.ann : Ann := { keep := fun r => match r with  | _ => [], ord := fun r => match r with  | _ => [] }
theorem darningref4_Off.link {x0 : List Value} {H : AH} {k : Int → AH → Prop} (h : darningref4_Off.b x0 H k) : darningref4_Off x0 H k := by
  have e : wpC Try.prog T pan Try.f55.ntmps darningref4_Off.ann (Try.f55.body.getD .skip) (argFr [(Value.agg (List.toArray x0))]) H (bodyK T Try.f55.results.toList fun e H' => out1 (.int .i64) e noPan (fun r0 => k r0 H')) = darningref4_Off.b x0 H k := by kernel_rfl
  have h1 : LCalls Try.prog 55 [(Value.agg (List.toArray x0))] H (fun e H' => out1 (.int .i64) e noPan (fun r0 => k r0 H')) := lcalls_of hT hm Try.func55 (by kernel_rfl) darningref4_Off.ann (Nat.le_of_ble_eq_true (by kernel_rfl)) (e.mpr h)
  exact h1.mono fun _ _ hq => out1_in (fun h => by cases h) hq

def darningref4_ImageAlloc.b (x0 : Sl) (x1 : Int) (x2 : Sl) (H : AH) (k : Sl → Int → Int → AH → Prop) : Prop :=
  darningref4_Need x1 H fun n13 H13 => bcase ((n13 : Int) == (0 : Int)) (k ⟨none, 0, 0⟩ (0 : Int) (1 : Int) H13) (darningref4_Blocks x0 H13 fun s17a b17b H17 => bcase (!b17b) (k ⟨none, 0, 0⟩ (0 : Int) (6 : Int) H17) (darningref4_Need x1 H17 fun n24 H24 => darningref4_Choose s17a n24 x2 H24 fun n26 H26 => bcase (decide ((n26 : Int) < (0 : Int))) (k ⟨none, 0, 0⟩ (0 : Int) (4 : Int) H26) ((0 ≤ n26 ∧ n26 < ((s17a.n : Nat) : Int)) ∧ onPtr s17a.a fun a36 => ldA H26 (Addr.add a36 (Int.toNat n26 * 3)) 3 fun c37 => darningref4_Need x1 H26 fun n32 H32 => AH.row? H32 (Addr.add a36 (Int.toNat n26 * 3)) 3 = some c37 ∧ darningref4_CarveEdits s17a n26 n32 H32 fun s33 H33 => AH.row? H33 (Addr.add a36 (Int.toNat n26 * 3)) 3 = some c37 ∧ darningref4_Off c37 H33 fun n38 H38 => k s33 n38 (0 : Int) H38)))
def darningref4_ImageAlloc.ann : Ann := { keep := fun r => match r with  | _ => [], ord := fun r => match r with | 9 => [0, 1, 2, 5, 6, 7, 8, 3, 4, 9, 10, 11, 12] | _ => [] }
theorem darningref4_ImageAlloc.link {x0 : Sl} {x1 : Int} {x2 : Sl} {H : AH} {k : Sl → Int → Int → AH → Prop} (h : darningref4_ImageAlloc.b x0 x1 x2 H k) : darningref4_ImageAlloc x0 x1 x2 H k := by
  have e : wpC Try.prog T pan Try.f37.ntmps darningref4_ImageAlloc.ann (Try.f37.body.getD .skip) (argFr [(Sl.val x0), (Value.int .i64 x1), (Sl.val x2)]) H (bodyK T Try.f37.results.toList fun e H' => out3 .sl (.int .i64) (.int .i64) e noPan (fun r0 r1 r2 => k r0 r1 r2 H')) = darningref4_ImageAlloc.b x0 x1 x2 H k := by kernel_rfl
  have h1 : LCalls Try.prog 37 [(Sl.val x0), (Value.int .i64 x1), (Sl.val x2)] H (fun e H' => out3 .sl (.int .i64) (.int .i64) e noPan (fun r0 r1 r2 => k r0 r1 r2 H')) := lcalls_of hT hm Try.func37 (by kernel_rfl) darningref4_ImageAlloc.ann (Nat.le_of_ble_eq_true (by kernel_rfl)) (e.mpr h)
  exact h1.mono fun _ _ hq => out3_in (fun h => by cases h) (fun h => by cases h) (fun h => by cases h) hq

def darningref4_Is.l1 (x0 : Sl) (x1 : Int) (k : Int → AH → Prop) (t2 : Int × Int) (HL2 : AH) (it2 : (Int × Int) → AH → Prop) : Prop :=
  bcase (decide ((t2.2 : Int) < ((x0.n : Nat) : Int))) ((0 ≤ t2.2 ∧ t2.2 < ((x0.n : Nat) : Int)) ∧ onPtr x0.a fun a12 => ldA HL2 (Addr.add a12 (Int.toNat t2.2 * 3)) 3 fun c13 => newC HL2 ⟨[(Value.int .i64 (0 : Int)), (Value.int .i64 (0 : Int)), (Value.bool false)], .rw, 0⟩ fun o6 H6 => (List.length c13 = 3 ∧ List.all c13 cellOK = true) ∧ stC H6 ⟨o6, 0, none⟩ c13 fun Hs2 => elB (AH.cell? Hs2 (Addr.add ⟨o6, 0, none⟩ 2)) fun b15 => bcase b15 (ldA Hs2 ⟨o6, 0, none⟩ 3 fun c17 => darningref4_Off c17 Hs2 fun n18 H18 => bcase ((n18 : Int) == x1) (k t2.2 H18) (it2 (t2.1, (IntKind.wrap .i64 (t2.2 + (1 : Int)))) H18)) (it2 (t2.1, (IntKind.wrap .i64 (t2.2 + (1 : Int)))) Hs2)) (k (-1 : Int) HL2)
def darningref4_Is.b (x0 : Sl) (x1 : Int) (H : AH) (k : Int → AH → Prop) : Prop :=
  loopT (darningref4_Is.l1 x0 x1 k) (((0 : Int), (0 : Int)) : Int × Int) H
def darningref4_Is.ann : Ann := { keep := fun r => match r with | 2 => [(4, .int .i64), (9, .int .i64)] | _ => [], ord := fun r => match r with  | _ => [] }
theorem darningref4_Is.link {x0 : Sl} {x1 : Int} {H : AH} {k : Int → AH → Prop} (h : darningref4_Is.b x0 x1 H k) : darningref4_Is x0 x1 H k := by
  have e : wpC Try.prog T pan Try.f57.ntmps darningref4_Is.ann (Try.f57.body.getD .skip) (argFr [(Sl.val x0), (Value.int .i64 x1)]) H (bodyK T Try.f57.results.toList fun e H' => out1 (.int .i64) e noPan (fun r0 => k r0 H')) = darningref4_Is.b x0 x1 H k := by kernel_rfl
  have h1 : LCalls Try.prog 57 [(Sl.val x0), (Value.int .i64 x1)] H (fun e H' => out1 (.int .i64) e noPan (fun r0 => k r0 H')) := lcalls_of hT hm Try.func57 (by kernel_rfl) darningref4_Is.ann (Nat.le_of_ble_eq_true (by kernel_rfl)) (e.mpr h)
  exact h1.mono fun _ _ hq => out1_in (fun h => by cases h) hq

def darningref4_Merged.j1 (x0 : Sl) (k : Sl → Int → Bool → AH → Prop) (x7 : Int) (x8 : Int) (t10 : Int × Int) (HL10 : AH) : Prop :=
  (0 ≤ x7 ∧ x7 ≤ ((x0.n : Nat) : Int)) ∧ (0 ≤ x7 ∧ x7 < ((x0.n : Nat) : Int)) ∧ onPtr x0.a fun a86 => elI .i64 (AH.cell? HL10 (Addr.add (Addr.add a86 (Int.toNat x7 * 3)) 0)) fun n88 => (List.length [(Value.int .i64 n88), (Value.int .i64 t10.1), (Value.bool false)] = 3) ∧ newC HL10 ⟨[(Value.int .i64 n88), (Value.int .i64 t10.1), (Value.bool false)], .rw, 3⟩ fun o91 H91 => appendC 3 H91 ⟨none, 0, 0⟩ ⟨x0.a, (Int.toNat x7), 0⟩ fun s83 H83 => AH.cell? H83 (Addr.add (Addr.add a86 (Int.toNat x7 * 3)) 0) = some (Value.int .i64 n88) ∧ appendC 3 H83 s83 ⟨(some ⟨o91, 0, none⟩), 1, 1⟩ fun s92 H92 => (0 ≤ x8 ∧ x8 ≤ ((x0.n : Nat) : Int)) ∧ appendC 3 H92 s92 ⟨(Option.map (fun x => Addr.add x (Int.toNat x8 * 3)) x0.a), (x0.n - Int.toNat x8), 0⟩ fun s97 H97 => k s97 x7 true H97
def darningref4_Merged.l2 (x0 : Sl) (k : Sl → Int → Bool → AH → Prop) (x7 : Int) (x8 : Int) (t10 : Int × Int) (HL10 : AH) (it10 : (Int × Int) → AH → Prop) : Prop :=
  bcase (decide ((t10.2 : Int) < (((Int.toNat x8 - Int.toNat x7) : Nat) : Int))) ((0 ≤ t10.2 ∧ t10.2 < (((Int.toNat x8 - Int.toNat x7) : Nat) : Int)) ∧ onPtr (Option.map (fun x => Addr.add x (Int.toNat x7 * 3)) x0.a) fun a73 => ldA HL10 (Addr.add a73 (Int.toNat t10.2 * 3)) 3 fun c74 => newC HL10 ⟨[(Value.int .i64 (0 : Int)), (Value.int .i64 (0 : Int)), (Value.bool false)], .rw, 0⟩ fun o11 H11 => (List.length c74 = 3 ∧ List.all c74 cellOK = true) ∧ stC H11 ⟨o11, 0, none⟩ c74 fun Hs2 => elI .i64 (AH.cell? Hs2 (Addr.add ⟨o11, 0, none⟩ 1)) fun n77 => it10 ((IntKind.wrap .i64 (t10.1 + n77)), (IntKind.wrap .i64 (t10.2 + (1 : Int)))) Hs2) (darningref4_Merged.j1 x0 k x7 x8 t10 HL10)
def darningref4_Merged.j3 (x0 : Sl) (k : Sl → Int → Bool → AH → Prop) (H16 : AH) (x7 : Int) (x8 : Int) : Prop :=
  (0 ≤ x7 ∧ x7 ≤ x8 ∧ x8 ≤ ((x0.n : Nat) : Int)) ∧ loopT (darningref4_Merged.l2 x0 k x7 x8) (((0 : Int), (0 : Int)) : Int × Int) H16
def darningref4_Merged.j4 (x0 : Sl) (x1 : Int) (k : Sl → Int → Bool → AH → Prop) (H16 : AH) (x7 : Int) (x63 : Bool) : Prop :=
  bcase x63 (darningref4_Merged.j3 x0 k H16 x7 (IntKind.wrap .i64 ((IntKind.wrap .i64 (x1 + (1 : Int))) + (1 : Int)))) (darningref4_Merged.j3 x0 k H16 x7 (IntKind.wrap .i64 (x1 + (1 : Int))))
def darningref4_Merged.j5 (x0 : Sl) (x1 : Int) (k : Sl → Int → Bool → AH → Prop) (H16 : AH) (x7 : Int) : Prop :=
  bcase (decide (((IntKind.wrap .i64 (x1 + (1 : Int))) : Int) < ((x0.n : Nat) : Int))) ((0 ≤ (IntKind.wrap .i64 (x1 + (1 : Int))) ∧ (IntKind.wrap .i64 (x1 + (1 : Int))) < ((x0.n : Nat) : Int)) ∧ onPtr x0.a fun a59 => elB (AH.cell? H16 (Addr.add (Addr.add a59 (Int.toNat (IntKind.wrap .i64 (x1 + (1 : Int))) * 3)) 2)) fun b61 => darningref4_Merged.j4 x0 x1 k H16 x7 (!b61)) (darningref4_Merged.j4 x0 x1 k H16 x7 false)
def darningref4_Merged.j6 (x0 : Sl) (x1 : Int) (k : Sl → Int → Bool → AH → Prop) (H16 : AH) (x49 : Bool) : Prop :=
  bcase x49 (darningref4_Merged.j5 x0 x1 k H16 (IntKind.wrap .i64 (x1 - (1 : Int)))) (darningref4_Merged.j5 x0 x1 k H16 x1)
def darningref4_Merged.j7 (x0 : Sl) (x1 : Int) (k : Sl → Int → Bool → AH → Prop) (H16 : AH) (x35 : Bool) : Prop :=
  bcase x35 (k ⟨none, 0, 0⟩ (0 : Int) false H16) (bcase (decide ((x1 : Int) > (0 : Int))) ((0 ≤ (IntKind.wrap .i64 (x1 - (1 : Int))) ∧ (IntKind.wrap .i64 (x1 - (1 : Int))) < ((x0.n : Nat) : Int)) ∧ onPtr x0.a fun a45 => elB (AH.cell? H16 (Addr.add (Addr.add a45 (Int.toNat (IntKind.wrap .i64 (x1 - (1 : Int))) * 3)) 2)) fun b47 => darningref4_Merged.j6 x0 x1 k H16 (!b47)) (darningref4_Merged.j6 x0 x1 k H16 false))
def darningref4_Merged.b (x0 : Sl) (x1 : Int) (H : AH) (k : Sl → Int → Bool → AH → Prop) : Prop :=
  darningref4_sizes x0 H fun n15 H15 => darningref4_MayBlocks x0 n15 H15 fun b16 H16 => bcase (!b16) (darningref4_Merged.j7 x0 x1 k H16 true) (bcase (decide ((x1 : Int) < (0 : Int))) (darningref4_Merged.j7 x0 x1 k H16 true) (bcase (decide ((x1 : Int) ≥ ((x0.n : Nat) : Int))) (darningref4_Merged.j7 x0 x1 k H16 true) ((0 ≤ x1 ∧ x1 < ((x0.n : Nat) : Int)) ∧ onPtr x0.a fun a31 => elB (AH.cell? H16 (Addr.add (Addr.add a31 (Int.toNat x1 * 3)) 2)) fun b33 => darningref4_Merged.j7 x0 x1 k H16 (!b33))))
def darningref4_Merged.ann : Ann := { keep := fun r => match r with | 10 => [(9, .int .i64), (71, .int .i64)] | _ => [], ord := fun r => match r with | 14 => [0, 1, 2, 4, 5, 6, 7, 8, 9, 10, 11, 3, 12, 13] | _ => [] }
theorem darningref4_Merged.link {x0 : Sl} {x1 : Int} {H : AH} {k : Sl → Int → Bool → AH → Prop} (h : darningref4_Merged.b x0 x1 H k) : darningref4_Merged x0 x1 H k := by
  have e : wpC Try.prog T pan Try.f56.ntmps darningref4_Merged.ann (Try.f56.body.getD .skip) (argFr [(Sl.val x0), (Value.int .i64 x1)]) H (bodyK T Try.f56.results.toList fun e H' => out3 .sl (.int .i64) .bool e noPan (fun r0 r1 r2 => k r0 r1 r2 H')) = darningref4_Merged.b x0 x1 H k := by kernel_rfl
  have h1 : LCalls Try.prog 56 [(Sl.val x0), (Value.int .i64 x1)] H (fun e H' => out3 .sl (.int .i64) .bool e noPan (fun r0 r1 r2 => k r0 r1 r2 H')) := lcalls_of hT hm Try.func56 (by kernel_rfl) darningref4_Merged.ann (Nat.le_of_ble_eq_true (by kernel_rfl)) (e.mpr h)
  exact h1.mono fun _ _ hq => out3_in (fun h => by cases h) (fun h => by cases h) (fun h => by cases h) hq

def darningref4_ImageFree.b (x0 : Sl) (x1 : Int) (H : AH) (k : Sl → Int → AH → Prop) : Prop :=
  darningref4_Blocks x0 H fun s12a b12b H12 => bcase (!b12b) (k ⟨none, 0, 0⟩ (6 : Int) H12) (darningref4_Is s12a x1 H12 fun n21 H21 => darningref4_Merged s12a n21 H21 fun s22a n22b b22c H22 => bcase (!b22c) (k ⟨none, 0, 0⟩ (1 : Int) H22) ((0 ≤ n22b ∧ n22b < ((s22a.n : Nat) : Int)) ∧ onPtr s22a.a fun a30 => elI .i64 (AH.cell? H22 (Addr.add (Addr.add a30 (Int.toNat n22b * 3)) 0)) fun n32 => (0 ≤ n22b ∧ n22b < ((s22a.n : Nat) : Int)) ∧ onPtr s22a.a fun a35 => elI .i64 (AH.cell? H22 (Addr.add (Addr.add a35 (Int.toNat n22b * 3)) 1)) fun n37 => darningref4_Word n37 false H22 fun n38 H38 => AH.cell? H38 (Addr.add (Addr.add a30 (Int.toNat n22b * 3)) 0) = some (Value.int .i64 n32) ∧ (List.length [(Value.int .i64 n32), (Value.int .u64 n38)] = 2) ∧ newC H38 ⟨[(Value.int .i64 n32), (Value.int .u64 n38)], .rw, 2⟩ fun o40 H40 => k ⟨(some ⟨o40, 0, none⟩), 1, 1⟩ (0 : Int) H40))
def darningref4_ImageFree.ann : Ann := { keep := fun r => match r with  | _ => [], ord := fun r => match r with | 7 => [0, 1, 2, 3, 4, 5, 6, 7, 8, 9, 10, 11, 12, 13, 14] | _ => [] }
theorem darningref4_ImageFree.link {x0 : Sl} {x1 : Int} {H : AH} {k : Sl → Int → AH → Prop} (h : darningref4_ImageFree.b x0 x1 H k) : darningref4_ImageFree x0 x1 H k := by
  have e : wpC Try.prog T pan Try.f38.ntmps darningref4_ImageFree.ann (Try.f38.body.getD .skip) (argFr [(Sl.val x0), (Value.int .i64 x1)]) H (bodyK T Try.f38.results.toList fun e H' => out2 .sl (.int .i64) e noPan (fun r0 r1 => k r0 r1 H')) = darningref4_ImageFree.b x0 x1 H k := by kernel_rfl
  have h1 : LCalls Try.prog 38 [(Sl.val x0), (Value.int .i64 x1)] H (fun e H' => out2 .sl (.int .i64) e noPan (fun r0 r1 => k r0 r1 H')) := lcalls_of hT hm Try.func38 (by kernel_rfl) darningref4_ImageFree.ann (Nat.le_of_ble_eq_true (by kernel_rfl)) (e.mpr h)
  exact h1.mono fun _ _ hq => out2_in (fun h => by cases h) (fun h => by cases h) hq

def darningref4_Within.l1 (x0 : Sl) (x1 : Int) (x2 : Int) (k : Bool → AH → Prop) (t4 : Bool × Int) (HL4 : AH) (it4 : (Bool × Int) → AH → Prop) : Prop :=
  bcase (decide ((t4.2 : Int) < ((x0.n : Nat) : Int))) ((0 ≤ t4.2 ∧ t4.2 < ((x0.n : Nat) : Int)) ∧ onPtr x0.a fun a20 => ldA HL4 (Addr.add a20 (Int.toNat t4.2 * 3)) 3 fun c21 => newC HL4 ⟨[(Value.int .i64 (0 : Int)), (Value.int .i64 (0 : Int)), (Value.bool false)], .rw, 0⟩ fun o8 H8 => (List.length c21 = 3 ∧ List.all c21 cellOK = true) ∧ stC H8 ⟨o8, 0, none⟩ c21 fun Hs2 => elI .i64 (AH.cell? Hs2 (Addr.add ⟨o8, 0, none⟩ 0)) fun n23 => elI .i64 (AH.cell? Hs2 (Addr.add ⟨o8, 0, none⟩ 1)) fun n25 => elB (AH.cell? Hs2 (Addr.add ⟨o8, 0, none⟩ 2)) fun b29 => bcase b29 (ldA Hs2 ⟨o8, 0, none⟩ 3 fun c32 => darningref4_Off c32 Hs2 fun n33 H33 => bcase (decide ((x1 : Int) ≥ n33)) (bcase (decide ((x1 : Int) ≤ (IntKind.wrap .i64 ((IntKind.wrap .i64 (n23 + n25)) * (8 : Int))))) (bcase (decide ((x2 : Int) ≤ (IntKind.wrap .i64 ((IntKind.wrap .i64 ((IntKind.wrap .i64 (n23 + n25)) * (8 : Int))) - x1)))) (k true H33) (it4 (t4.1, (IntKind.wrap .i64 (t4.2 + (1 : Int)))) H33)) (it4 (t4.1, (IntKind.wrap .i64 (t4.2 + (1 : Int)))) H33)) (it4 (t4.1, (IntKind.wrap .i64 (t4.2 + (1 : Int)))) H33)) (it4 (t4.1, (IntKind.wrap .i64 (t4.2 + (1 : Int)))) Hs2)) (k false HL4)
def darningref4_Within.j2 (x0 : Sl) (x1 : Int) (x2 : Int) (H : AH) (k : Bool → AH → Prop) (x15 : Bool) : Prop :=
  bcase x15 (k false H) (loopT (darningref4_Within.l1 x0 x1 x2 k) ((false, (0 : Int)) : Bool × Int) H)
def darningref4_Within.b (x0 : Sl) (x1 : Int) (x2 : Int) (H : AH) (k : Bool → AH → Prop) : Prop :=
  bcase (decide ((x2 : Int) < (0 : Int))) (darningref4_Within.j2 x0 x1 x2 H k true) (darningref4_Within.j2 x0 x1 x2 H k (decide ((x2 : Int) > (448 : Int))))
def darningref4_Within.ann : Ann := { keep := fun r => match r with | 4 => [(6, .bool), (18, .int .i64)] | _ => [], ord := fun r => match r with  | _ => [] }
theorem darningref4_Within.link {x0 : Sl} {x1 : Int} {x2 : Int} {H : AH} {k : Bool → AH → Prop} (h : darningref4_Within.b x0 x1 x2 H k) : darningref4_Within x0 x1 x2 H k := by
  have e : wpC Try.prog T pan Try.f58.ntmps darningref4_Within.ann (Try.f58.body.getD .skip) (argFr [(Sl.val x0), (Value.int .i64 x1), (Value.int .i64 x2)]) H (bodyK T Try.f58.results.toList fun e H' => out1 .bool e noPan (fun r0 => k r0 H')) = darningref4_Within.b x0 x1 x2 H k := by kernel_rfl
  have h1 : LCalls Try.prog 58 [(Sl.val x0), (Value.int .i64 x1), (Value.int .i64 x2)] H (fun e H' => out1 .bool e noPan (fun r0 => k r0 H')) := lcalls_of hT hm Try.func58 (by kernel_rfl) darningref4_Within.ann (Nat.le_of_ble_eq_true (by kernel_rfl)) (e.mpr h)
  exact h1.mono fun _ _ hq => out1_in (fun h => by cases h) hq

def darningref4_inside.b (x0 : Int) (x1 : Int) (x2 : Int) (H : AH) (k : Bool → AH → Prop) : Prop :=
  bcase (decide ((x1 : Int) ≥ (0 : Int))) (bcase (decide ((x2 : Int) ≥ (0 : Int))) (bcase (decide ((x2 : Int) ≤ (448 : Int))) (bcase (decide ((x1 : Int) ≤ (IntKind.wrap .i64 ((8 : Int) * x0)))) (k (decide ((x2 : Int) ≤ (IntKind.wrap .i64 ((IntKind.wrap .i64 ((8 : Int) * x0)) - x1)))) H) (k false H)) (k false H)) (k false H)) (k false H)
def darningref4_inside.ann : Ann := { keep := fun r => match r with  | _ => [], ord := fun r => match r with  | _ => [] }
theorem darningref4_inside.link {x0 : Int} {x1 : Int} {x2 : Int} {H : AH} {k : Bool → AH → Prop} (h : darningref4_inside.b x0 x1 x2 H k) : darningref4_inside x0 x1 x2 H k := by
  have e : wpC Try.prog T pan Try.f70.ntmps darningref4_inside.ann (Try.f70.body.getD .skip) (argFr [(Value.int .i64 x0), (Value.int .i64 x1), (Value.int .i64 x2)]) H (bodyK T Try.f70.results.toList fun e H' => out1 .bool e noPan (fun r0 => k r0 H')) = darningref4_inside.b x0 x1 x2 H k := by kernel_rfl
  have h1 : LCalls Try.prog 70 [(Value.int .i64 x0), (Value.int .i64 x1), (Value.int .i64 x2)] H (fun e H' => out1 .bool e noPan (fun r0 => k r0 H')) := lcalls_of hT hm Try.func70 (by kernel_rfl) darningref4_inside.ann (Nat.le_of_ble_eq_true (by kernel_rfl)) (e.mpr h)
  exact h1.mono fun _ _ hq => out1_in (fun h => by cases h) hq

def darningref4_ByteEdits.j1 (x1 : Int) (t5 : Sl × Int) (it5 : (Sl × Int) → AH → Prop) (n28 : Int) (x8 : Sl) (Hj : AH) : Prop :=
  (0 ≤ (IntKind.wrap .i64 (((x8.n : Nat) : Int) - (1 : Int))) ∧ (IntKind.wrap .i64 (((x8.n : Nat) : Int) - (1 : Int))) < ((x8.n : Nat) : Int)) ∧ onPtr x8.a fun a66 => elI .u64 (AH.cell? Hj (Addr.add (Addr.add a66 (Int.toNat (IntKind.wrap .i64 (((x8.n : Nat) : Int) - (1 : Int))) * 2)) 1)) fun n71 => (0 : Int) ≤ (IntKind.wrap .u64 (IntKind.wrap .i64 ((Int.tmod (IntKind.wrap .i64 (x1 + t5.2)) (8 : Int)) * (8 : Int)))) ∧ (0 : Int) ≤ (IntKind.wrap .u64 (IntKind.wrap .i64 ((Int.tmod (IntKind.wrap .i64 (x1 + t5.2)) (8 : Int)) * (8 : Int)))) ∧ stC Hj (Addr.add (Addr.add a66 (Int.toNat (IntKind.wrap .i64 (((x8.n : Nat) : Int) - (1 : Int))) * 2)) 1) [(Value.int .u64 (orI .u64 (andNotI .u64 n71 (shlI .u64 (255 : Int) (IntKind.wrap .u64 (IntKind.wrap .i64 ((Int.tmod (IntKind.wrap .i64 (x1 + t5.2)) (8 : Int)) * (8 : Int)))))) (shlI .u64 (IntKind.wrap .u64 n28) (IntKind.wrap .u64 (IntKind.wrap .i64 ((Int.tmod (IntKind.wrap .i64 (x1 + t5.2)) (8 : Int)) * (8 : Int)))))))] fun Hs2 => it5 (x8, (IntKind.wrap .i64 (t5.2 + (1 : Int)))) Hs2
def darningref4_ByteEdits.j2 (x0 : Sl) (x1 : Int) (t5 : Sl × Int) (it5 : (Sl × Int) → AH → Prop) (HL5 : AH) (n28 : Int) (x52 : Bool) : Prop :=
  bcase x52 ((0 ≤ (IntKind.wrap .i64 (Int.tdiv (IntKind.wrap .i64 (x1 + t5.2)) (8 : Int))) ∧ (IntKind.wrap .i64 (Int.tdiv (IntKind.wrap .i64 (x1 + t5.2)) (8 : Int))) < ((x0.n : Nat) : Int)) ∧ onPtr x0.a fun a57 => elI .u64 (AH.cell? HL5 (Addr.add a57 (Int.toNat (IntKind.wrap .i64 (Int.tdiv (IntKind.wrap .i64 (x1 + t5.2)) (8 : Int))) * 1))) fun n58 => (List.length [(Value.int .i64 (IntKind.wrap .i64 (Int.tdiv (IntKind.wrap .i64 (x1 + t5.2)) (8 : Int)))), (Value.int .u64 n58)] = 2) ∧ newC HL5 ⟨[(Value.int .i64 (IntKind.wrap .i64 (Int.tdiv (IntKind.wrap .i64 (x1 + t5.2)) (8 : Int)))), (Value.int .u64 n58)], .rw, 2⟩ fun o60 H60 => appendC 2 H60 t5.1 ⟨(some ⟨o60, 0, none⟩), 1, 1⟩ fun s61 H61 => darningref4_ByteEdits.j1 x1 t5 it5 n28 s61 H61) (darningref4_ByteEdits.j1 x1 t5 it5 n28 t5.1 HL5)
def darningref4_ByteEdits.l3 (x0 : Sl) (x1 : Int) (x2 : Sl) (k : Sl → Bool → AH → Prop) (t5 : Sl × Int) (HL5 : AH) (it5 : (Sl × Int) → AH → Prop) : Prop :=
  bcase (decide ((t5.2 : Int) < ((x2.n : Nat) : Int))) ((0 ≤ t5.2 ∧ t5.2 < ((x2.n : Nat) : Int)) ∧ onPtr x2.a fun a27 => elI .u8 (AH.cell? HL5 (Addr.add a27 (Int.toNat t5.2 * 1))) fun n28 => ((8 : Int) : Int) ≠ 0 ∧ ((8 : Int) : Int) ≠ 0 ∧ bcase ((((t5.1.n : Nat) : Int) : Int) == (0 : Int)) (darningref4_ByteEdits.j2 x0 x1 t5 it5 HL5 n28 true) ((0 ≤ (IntKind.wrap .i64 (((t5.1.n : Nat) : Int) - (1 : Int))) ∧ (IntKind.wrap .i64 (((t5.1.n : Nat) : Int) - (1 : Int))) < ((t5.1.n : Nat) : Int)) ∧ onPtr t5.1.a fun a47 => elI .i64 (AH.cell? HL5 (Addr.add (Addr.add a47 (Int.toNat (IntKind.wrap .i64 (((t5.1.n : Nat) : Int) - (1 : Int))) * 2)) 0)) fun n49 => darningref4_ByteEdits.j2 x0 x1 t5 it5 HL5 n28 ((n49 : Int) != (IntKind.wrap .i64 (Int.tdiv (IntKind.wrap .i64 (x1 + t5.2)) (8 : Int)))))) (k t5.1 true HL5)
def darningref4_ByteEdits.b (x0 : Sl) (x1 : Int) (x2 : Sl) (H : AH) (k : Sl → Bool → AH → Prop) : Prop :=
  darningref4_inside ((x0.n : Nat) : Int) x1 ((x2.n : Nat) : Int) H fun b20 H20 => bcase (!b20) (k ⟨none, 0, 0⟩ false H20) (loopT (darningref4_ByteEdits.l3 x0 x1 x2 k) ((⟨none, 0, 0⟩, (0 : Int)) : Sl × Int) H20)
def darningref4_ByteEdits.ann : Ann := { keep := fun r => match r with | 5 => [(8, .sl), (24, .int .i64)] | _ => [], ord := fun r => match r with  | _ => [] }
theorem darningref4_ByteEdits.link {x0 : Sl} {x1 : Int} {x2 : Sl} {H : AH} {k : Sl → Bool → AH → Prop} (h : darningref4_ByteEdits.b x0 x1 x2 H k) : darningref4_ByteEdits x0 x1 x2 H k := by
  have e : wpC Try.prog T pan Try.f59.ntmps darningref4_ByteEdits.ann (Try.f59.body.getD .skip) (argFr [(Sl.val x0), (Value.int .i64 x1), (Sl.val x2)]) H (bodyK T Try.f59.results.toList fun e H' => out2 .sl .bool e noPan (fun r0 r1 => k r0 r1 H')) = darningref4_ByteEdits.b x0 x1 x2 H k := by kernel_rfl
  have h1 : LCalls Try.prog 59 [(Sl.val x0), (Value.int .i64 x1), (Sl.val x2)] H (fun e H' => out2 .sl .bool e noPan (fun r0 r1 => k r0 r1 H')) := lcalls_of hT hm Try.func59 (by kernel_rfl) darningref4_ByteEdits.ann (Nat.le_of_ble_eq_true (by kernel_rfl)) (e.mpr h)
  exact h1.mono fun _ _ hq => out2_in (fun h => by cases h) (fun h => by cases h) hq

def darningref4_ImageWrite.b (x0 : Sl) (x1 : Int) (x2 : Sl) (H : AH) (k : Sl → Int → AH → Prop) : Prop :=
  darningref4_Blocks x0 H fun s14a b14b H14 => bcase (!b14b) (k ⟨none, 0, 0⟩ (6 : Int) H14) (darningref4_Within s14a x1 ((x2.n : Nat) : Int) H14 fun b23 H23 => bcase (!b23) (k ⟨none, 0, 0⟩ (1 : Int) H23) (darningref4_ByteEdits x0 x1 x2 H23 fun s29a b29b H29 => k s29a (0 : Int) H29))
def darningref4_ImageWrite.ann : Ann := { keep := fun r => match r with  | _ => [], ord := fun r => match r with  | _ => [] }
theorem darningref4_ImageWrite.link {x0 : Sl} {x1 : Int} {x2 : Sl} {H : AH} {k : Sl → Int → AH → Prop} (h : darningref4_ImageWrite.b x0 x1 x2 H k) : darningref4_ImageWrite x0 x1 x2 H k := by
  have e : wpC Try.prog T pan Try.f39.ntmps darningref4_ImageWrite.ann (Try.f39.body.getD .skip) (argFr [(Sl.val x0), (Value.int .i64 x1), (Sl.val x2)]) H (bodyK T Try.f39.results.toList fun e H' => out2 .sl (.int .i64) e noPan (fun r0 r1 => k r0 r1 H')) = darningref4_ImageWrite.b x0 x1 x2 H k := by kernel_rfl
  have h1 : LCalls Try.prog 39 [(Sl.val x0), (Value.int .i64 x1), (Sl.val x2)] H (fun e H' => out2 .sl (.int .i64) e noPan (fun r0 r1 => k r0 r1 H')) := lcalls_of hT hm Try.func39 (by kernel_rfl) darningref4_ImageWrite.ann (Nat.le_of_ble_eq_true (by kernel_rfl)) (e.mpr h)
  exact h1.mono fun _ _ hq => out2_in (fun h => by cases h) (fun h => by cases h) hq

def darningref4_EditLines.j1 (t3 : Sl × Int) (it3 : (Sl × Int) → AH → Prop) (n18 : Int) (t7 : Int) (HL7 : AH) (x45 : Bool) : Prop :=
  bcase x45 ((0 ≤ t7 ∧ t7 ≤ ((t3.1.n : Nat) : Int)) ∧ newC HL7 ⟨[(Value.int .i64 (IntKind.wrap .i64 (Int.tdiv n18 (8 : Int))))], .rw, 1⟩ fun o51 H51 => (0 ≤ t7 ∧ t7 ≤ ((t3.1.n : Nat) : Int)) ∧ appendC 1 H51 ⟨none, 0, 0⟩ ⟨t3.1.a, (Int.toNat t7), 0⟩ fun s49 H49 => appendC 1 H49 s49 ⟨(some ⟨o51, 0, none⟩), 1, 1⟩ fun s52 H52 => appendC 1 H52 s52 ⟨(Option.map (fun x => Addr.add x (Int.toNat t7 * 1)) t3.1.a), (t3.1.n - Int.toNat t7), 0⟩ fun s56 H56 => it3 (s56, (IntKind.wrap .i64 (t3.2 + (1 : Int)))) H56) (it3 (t3.1, (IntKind.wrap .i64 (t3.2 + (1 : Int)))) HL7)
def darningref4_EditLines.j2 (t3 : Sl × Int) (it3 : (Sl × Int) → AH → Prop) (n18 : Int) (t7 : Int) (HL7 : AH) : Prop :=
  bcase ((t7 : Int) == ((t3.1.n : Nat) : Int)) (darningref4_EditLines.j1 t3 it3 n18 t7 HL7 true) ((0 ≤ t7 ∧ t7 < ((t3.1.n : Nat) : Int)) ∧ onPtr t3.1.a fun a41 => elI .i64 (AH.cell? HL7 (Addr.add a41 (Int.toNat t7 * 1))) fun n42 => darningref4_EditLines.j1 t3 it3 n18 t7 HL7 ((n42 : Int) != (IntKind.wrap .i64 (Int.tdiv n18 (8 : Int)))))
def darningref4_EditLines.j3 (t3 : Sl × Int) (it3 : (Sl × Int) → AH → Prop) (n18 : Int) (t7 : Int) (it7 : (Int) → AH → Prop) (HL7 : AH) (x31 : Bool) : Prop :=
  bcase x31 (it7 (IntKind.wrap .i64 (t7 + (1 : Int))) HL7) (darningref4_EditLines.j2 t3 it3 n18 t7 HL7)
def darningref4_EditLines.l4 (t3 : Sl × Int) (it3 : (Sl × Int) → AH → Prop) (n18 : Int) (t7 : Int) (HL7 : AH) (it7 : (Int) → AH → Prop) : Prop :=
  bcase (decide ((t7 : Int) < ((t3.1.n : Nat) : Int))) ((0 ≤ t7 ∧ t7 < ((t3.1.n : Nat) : Int)) ∧ onPtr t3.1.a fun a27 => elI .i64 (AH.cell? HL7 (Addr.add a27 (Int.toNat t7 * 1))) fun n28 => darningref4_EditLines.j3 t3 it3 n18 t7 it7 HL7 (decide ((n28 : Int) < (IntKind.wrap .i64 (Int.tdiv n18 (8 : Int)))))) (darningref4_EditLines.j3 t3 it3 n18 t7 it7 HL7 false)
def darningref4_EditLines.l5 (x0 : Sl) (k : Sl → AH → Prop) (t3 : Sl × Int) (HL3 : AH) (it3 : (Sl × Int) → AH → Prop) : Prop :=
  bcase (decide ((t3.2 : Int) < ((x0.n : Nat) : Int))) ((0 ≤ t3.2 ∧ t3.2 < ((x0.n : Nat) : Int)) ∧ onPtr x0.a fun a12 => ldA HL3 (Addr.add a12 (Int.toNat t3.2 * 2)) 2 fun c13 => newC HL3 ⟨[(Value.int .i64 (0 : Int)), (Value.int .u64 (0 : Int))], .rw, 0⟩ fun o5 H5 => (List.length c13 = 2 ∧ List.all c13 cellOK = true) ∧ stC H5 ⟨o5, 0, none⟩ c13 fun Hs2 => elI .i64 (AH.cell? Hs2 (Addr.add ⟨o5, 0, none⟩ 0)) fun n15 => bcase (decide ((n15 : Int) < (0 : Int))) (it3 (t3.1, (IntKind.wrap .i64 (t3.2 + (1 : Int)))) Hs2) (elI .i64 (AH.cell? Hs2 (Addr.add ⟨o5, 0, none⟩ 0)) fun n18 => ((8 : Int) : Int) ≠ 0 ∧ loopT (darningref4_EditLines.l4 t3 it3 n18) (((0 : Int)) : Int) Hs2)) (k t3.1 HL3)
def darningref4_EditLines.b (x0 : Sl) (H : AH) (k : Sl → AH → Prop) : Prop :=
  loopT (darningref4_EditLines.l5 x0 k) ((⟨none, 0, 0⟩, (0 : Int)) : Sl × Int) H
def darningref4_EditLines.ann : Ann := { keep := fun r => match r with | 3 => [(3, .sl), (10, .int .i64)] | 7 => [(7, .int .i64)] | _ => [], ord := fun r => match r with | 10 => [0, 1, 2, 4, 5, 7, 8, 9, 3, 6, 10, 11] | _ => [] }
theorem darningref4_EditLines.link {x0 : Sl} {H : AH} {k : Sl → AH → Prop} (h : darningref4_EditLines.b x0 H k) : darningref4_EditLines x0 H k := by
  have e : wpC Try.prog T pan Try.f40.ntmps darningref4_EditLines.ann (Try.f40.body.getD .skip) (argFr [(Sl.val x0)]) H (bodyK T Try.f40.results.toList fun e H' => out1 .sl e noPan (fun r0 => k r0 H')) = darningref4_EditLines.b x0 H k := by kernel_rfl
  have h1 : LCalls Try.prog 40 [(Sl.val x0)] H (fun e H' => out1 .sl e noPan (fun r0 => k r0 H')) := lcalls_of hT hm Try.func40 (by kernel_rfl) darningref4_EditLines.ann (Nat.le_of_ble_eq_true (by kernel_rfl)) (e.mpr h)
  exact h1.mono fun _ _ hq => out1_in (fun h => by cases h) hq

def darningref4_Apply.j1 (s9 : Sl) (t3 : Int) (it3 : (Int) → AH → Prop) (o7 : Nat) (Hs2 : AH) (x25 : Bool) : Prop :=
  bcase x25 (elI .i64 (AH.cell? Hs2 (Addr.add ⟨o7, 0, none⟩ 0)) fun n28 => elI .u64 (AH.cell? Hs2 (Addr.add ⟨o7, 0, none⟩ 1)) fun n30 => (0 ≤ n28 ∧ n28 < ((s9.n : Nat) : Int)) ∧ onPtr s9.a fun a31 => stC Hs2 (Addr.add a31 (Int.toNat n28 * 1)) [(Value.int .u64 n30)] fun Hs4 => it3 (IntKind.wrap .i64 (t3 + (1 : Int))) Hs4) (it3 (IntKind.wrap .i64 (t3 + (1 : Int))) Hs2)
def darningref4_Apply.l2 (x1 : Sl) (k : Sl → AH → Prop) (s9 : Sl) (t3 : Int) (HL3 : AH) (it3 : (Int) → AH → Prop) : Prop :=
  bcase (decide ((t3 : Int) < ((x1.n : Nat) : Int))) ((0 ≤ t3 ∧ t3 < ((x1.n : Nat) : Int)) ∧ onPtr x1.a fun a14 => ldA HL3 (Addr.add a14 (Int.toNat t3 * 2)) 2 fun c15 => newC HL3 ⟨[(Value.int .i64 (0 : Int)), (Value.int .u64 (0 : Int))], .rw, 0⟩ fun o7 H7 => (List.length c15 = 2 ∧ List.all c15 cellOK = true) ∧ stC H7 ⟨o7, 0, none⟩ c15 fun Hs2 => elI .i64 (AH.cell? Hs2 (Addr.add ⟨o7, 0, none⟩ 0)) fun n17 => bcase (decide ((n17 : Int) ≥ (0 : Int))) (elI .i64 (AH.cell? Hs2 (Addr.add ⟨o7, 0, none⟩ 0)) fun n21 => darningref4_Apply.j1 s9 t3 it3 o7 Hs2 (decide ((n21 : Int) < ((s9.n : Nat) : Int)))) (darningref4_Apply.j1 s9 t3 it3 o7 Hs2 false)) (k s9 HL3)
def darningref4_Apply.b (x0 : Sl) (x1 : Sl) (H : AH) (k : Sl → AH → Prop) : Prop :=
  appendC 1 H ⟨none, 0, 0⟩ x0 fun s9 H9 => loopT (darningref4_Apply.l2 x1 k s9) (((0 : Int)) : Int) H9
def darningref4_Apply.ann : Ann := { keep := fun r => match r with | 3 => [(12, .int .i64)] | _ => [], ord := fun r => match r with  | _ => [] }
theorem darningref4_Apply.link {x0 : Sl} {x1 : Sl} {H : AH} {k : Sl → AH → Prop} (h : darningref4_Apply.b x0 x1 H k) : darningref4_Apply x0 x1 H k := by
  have e : wpC Try.prog T pan Try.f41.ntmps darningref4_Apply.ann (Try.f41.body.getD .skip) (argFr [(Sl.val x0), (Sl.val x1)]) H (bodyK T Try.f41.results.toList fun e H' => out1 .sl e noPan (fun r0 => k r0 H')) = darningref4_Apply.b x0 x1 H k := by kernel_rfl
  have h1 : LCalls Try.prog 41 [(Sl.val x0), (Sl.val x1)] H (fun e H' => out1 .sl e noPan (fun r0 => k r0 H')) := lcalls_of hT hm Try.func41 (by kernel_rfl) darningref4_Apply.ann (Nat.le_of_ble_eq_true (by kernel_rfl)) (e.mpr h)
  exact h1.mono fun _ _ hq => out1_in (fun h => by cases h) hq

def darninglaw24_CostHomes.j1 (x2 : Int) (k : Bool → AH → Prop) (t6 : Bool × Sl × Int) (HL6 : AH) : Prop :=
  darningref4_ImageAlloc t6.2.1 x2 ⟨none, 0, 0⟩ HL6 fun s97a n97b n97c H97 => darningref4_EditLines s97a H97 fun s102 H102 => cost_Lines [(Value.int .i64 (1 : Int)), (Value.int .i64 (0 : Int)), (Value.int .i64 x2), (Value.int .i64 (0 : Int)), (Value.slice none 0 0)] H102 fun n106 H106 => bcase (decide ((((s102.n : Nat) : Int) : Int) ≤ (if n106 > (0 : Int) then n106 else (0 : Int)))) (darninglaw24_awake  H106 fun b110 H110 => k b110 H110) (k false H106)
def darninglaw24_CostHomes.j2 (k : Bool → AH → Prop) (t6 : Bool × Sl × Int) (it6 : (Bool × Sl × Int) → AH → Prop) (o13 : Nat) (x12 : Sl) (Hj : AH) : Prop :=
  ldA Hj ⟨o13, 0, none⟩ 5 fun c87 => darningref4_EditLines x12 Hj fun s85 H85 => AH.row? H85 ⟨o13, 0, none⟩ 5 = some c87 ∧ cost_Lines c87 H85 fun n88 H88 => bcase (decide ((((s85.n : Nat) : Int) : Int) > n88)) (k false H88) (darningref4_Apply t6.2.1 x12 H88 fun s92 H92 => it6 (t6.1, s92, (IntKind.wrap .i64 (t6.2.2 + (1 : Int)))) H92)
def darninglaw24_CostHomes.l3 (x1 : Sl) (x2 : Int) (k : Bool → AH → Prop) (t6 : Bool × Sl × Int) (HL6 : AH) (it6 : (Bool × Sl × Int) → AH → Prop) : Prop :=
  bcase (decide ((t6.2.2 : Int) < ((x1.n : Nat) : Int))) ((0 ≤ t6.2.2 ∧ t6.2.2 < ((x1.n : Nat) : Int)) ∧ onPtr x1.a fun a38 => ldA HL6 (Addr.add a38 (Int.toNat t6.2.2 * 5)) 5 fun c39 => newC HL6 ⟨[(Value.int .i64 (0 : Int)), (Value.int .i64 (0 : Int)), (Value.int .i64 (0 : Int)), (Value.int .i64 (0 : Int)), (Value.slice none 0 0)], .rw, 0⟩ fun o11 H11 => (List.length c39 = 5 ∧ List.all c39 cellOK = true) ∧ stC H11 ⟨o11, 0, none⟩ c39 fun Hs2 => elI .i64 (AH.cell? Hs2 (Addr.add ⟨o11, 0, none⟩ 1)) fun n41 => newC Hs2 ⟨[(Value.int .i64 (0 : Int)), (Value.int .i64 (0 : Int)), (Value.int .i64 (0 : Int)), (Value.int .i64 (0 : Int)), (Value.slice none 0 0)], .rw, 0⟩ fun o13 H13 => (List.length [(Value.int .i64 (1 : Int)), (Value.int .i64 (0 : Int)), (Value.int .i64 n41), (Value.int .i64 (0 : Int)), (Value.slice none 0 0)] = 5 ∧ List.all [(Value.int .i64 (1 : Int)), (Value.int .i64 (0 : Int)), (Value.int .i64 n41), (Value.int .i64 (0 : Int)), (Value.slice none 0 0)] cellOK = true) ∧ stC H13 ⟨o13, 0, none⟩ [(Value.int .i64 (1 : Int)), (Value.int .i64 (0 : Int)), (Value.int .i64 n41), (Value.int .i64 (0 : Int)), (Value.slice none 0 0)] fun Hs4 => elI .i64 (AH.cell? Hs4 (Addr.add ⟨o11, 0, none⟩ 0)) fun n44 => bcase ((n44 : Int) == (0 : Int)) (elI .i64 (AH.cell? Hs4 (Addr.add ⟨o11, 0, none⟩ 1)) fun n68 => darningref4_ImageAlloc t6.2.1 n68 ⟨none, 0, 0⟩ Hs4 fun s69a n69b n69c H69 => darninglaw24_CostHomes.j2 k t6 it6 o13 s69a H69) (bcase ((n44 : Int) == (1 : Int)) ((List.length [(Value.int .i64 (2 : Int)), (Value.int .i64 (0 : Int)), (Value.int .i64 (0 : Int)), (Value.int .i64 (0 : Int)), (Value.slice none 0 0)] = 5 ∧ List.all [(Value.int .i64 (2 : Int)), (Value.int .i64 (0 : Int)), (Value.int .i64 (0 : Int)), (Value.int .i64 (0 : Int)), (Value.slice none 0 0)] cellOK = true) ∧ stC Hs4 ⟨o13, 0, none⟩ [(Value.int .i64 (2 : Int)), (Value.int .i64 (0 : Int)), (Value.int .i64 (0 : Int)), (Value.int .i64 (0 : Int)), (Value.slice none 0 0)] fun Hs6 => elI .i64 (AH.cell? Hs6 (Addr.add ⟨o11, 0, none⟩ 2)) fun n79 => darningref4_ImageFree t6.2.1 (IntKind.wrap .i64 ((8 : Int) * n79)) Hs6 fun s81a n81b H81 => darninglaw24_CostHomes.j2 k t6 it6 o13 s81a H81) (elL (AH.cell? Hs4 (Addr.add ⟨o11, 0, none⟩ 4)) fun s46 => (List.length [(Value.int .i64 (4 : Int)), (Value.int .i64 (0 : Int)), (Value.int .i64 (0 : Int)), (Value.int .i64 (0 : Int)), (Sl.val s46)] = 5 ∧ List.all [(Value.int .i64 (4 : Int)), (Value.int .i64 (0 : Int)), (Value.int .i64 (0 : Int)), (Value.int .i64 (0 : Int)), (Sl.val s46)] cellOK = true) ∧ stC Hs4 ⟨o13, 0, none⟩ [(Value.int .i64 (4 : Int)), (Value.int .i64 (0 : Int)), (Value.int .i64 (0 : Int)), (Value.int .i64 (0 : Int)), (Sl.val s46)] fun Hs8 => elI .i64 (AH.cell? Hs8 (Addr.add ⟨o11, 0, none⟩ 2)) fun n51 => elI .i64 (AH.cell? Hs8 (Addr.add ⟨o11, 0, none⟩ 3)) fun n55 => elL (AH.cell? Hs8 (Addr.add ⟨o11, 0, none⟩ 4)) fun s59 => darningref4_ImageWrite t6.2.1 (IntKind.wrap .i64 ((IntKind.wrap .i64 ((8 : Int) * (andI .i64 n51 (63 : Int)))) + (andI .i64 n55 (7 : Int)))) s59 Hs8 fun s60a n60b H60 => darninglaw24_CostHomes.j2 k t6 it6 o13 s60a H60))) (darninglaw24_CostHomes.j1 x2 k t6 HL6)
def darninglaw24_CostHomes.j4 (x0 : Int) (x1 : Sl) (x2 : Int) (k : Bool → AH → Prop) (H18 : AH) (x24 : Bool) : Prop :=
  bcase x24 (darninglaw24_awake  H18 fun b25 H25 => k b25 H25) (((64 : Int) : Int) ≠ 0 ∧ darningref4_First (IntKind.wrap .i64 ((8 : Int) * (IntKind.wrap .i64 ((1 : Int) + (IntKind.wrap .i64 (Int.tmod (IntKind.wrap .u64 x0) (64 : Int))))))) H18 fun s33 H33 => loopT (darninglaw24_CostHomes.l3 x1 x2 k) ((false, s33, (0 : Int)) : Bool × Sl × Int) H33)
def darninglaw24_CostHomes.b (x0 : Int) (x1 : Sl) (x2 : Int) (x3 : Sl) (H : AH) (k : Bool → AH → Prop) : Prop :=
  darninglaw19_Heavy x1 H fun n18 H18 => bcase (decide ((n18 : Int) > (0 : Int))) (darninglaw24_CostHomes.j4 x0 x1 x2 k H18 true) (darninglaw24_CostHomes.j4 x0 x1 x2 k H18 (decide ((((x3.n : Nat) : Int) : Int) > (500 : Int))))
def darninglaw24_CostHomes.ann : Ann := { keep := fun r => match r with | 6 => [(8, .bool), (9, .sl), (36, .int .i64)] | _ => [], ord := fun r => match r with | 18 => [0, 3, 1, 2, 4, 5] | _ => [] }
theorem darninglaw24_CostHomes.link {x0 : Int} {x1 : Sl} {x2 : Int} {x3 : Sl} {H : AH} {k : Bool → AH → Prop} (h : darninglaw24_CostHomes.b x0 x1 x2 x3 H k) : darninglaw24_CostHomes x0 x1 x2 x3 H k := by
  have e : wpC Try.prog T pan Try.f10.ntmps darninglaw24_CostHomes.ann (Try.f10.body.getD .skip) (argFr [(Value.int .i64 x0), (Sl.val x1), (Value.int .i64 x2), (Sl.val x3)]) H (bodyK T Try.f10.results.toList fun e H' => out1 .bool e noPan (fun r0 => k r0 H')) = darninglaw24_CostHomes.b x0 x1 x2 x3 H k := by kernel_rfl
  have h1 : LCalls Try.prog 10 [(Value.int .i64 x0), (Sl.val x1), (Value.int .i64 x2), (Sl.val x3)] H (fun e H' => out1 .bool e noPan (fun r0 => k r0 H')) := lcalls_of hT hm Try.func10 (by kernel_rfl) darninglaw24_CostHomes.ann (Nat.le_of_ble_eq_true (by kernel_rfl)) (e.mpr h)
  exact h1.mono fun _ _ hq => out1_in (fun h => by cases h) hq

def darninglaw24_CostKinds.b (x0 : Int) (x1 : Int) (x2 : Int) (H : AH) (k : Bool → AH → Prop) : Prop :=
  ((17 : Int) : Int) ≠ 0 ∧ cost_Op [(Value.int .i64 (3 : Int)), (Value.int .i64 (0 : Int)), (Value.int .i64 x1), (Value.int .i64 (0 : Int)), (Value.slice none 0 0)] (IntKind.wrap .i64 (Int.tmod (IntKind.wrap .u64 x2) (17 : Int))) H fun n15 H15 => cost_Op [(Value.int .i64 (6 : Int)), (Value.int .i64 (0 : Int)), (Value.int .i64 (0 : Int)), (Value.int .i64 (0 : Int)), (Value.slice none 0 0)] (IntKind.wrap .i64 (Int.tmod (IntKind.wrap .u64 x2) (17 : Int))) H15 fun n18 H18 => ((100 : Int) : Int) ≠ 0 ∧ cost_Op [(Value.int .i64 (IntKind.wrap .i64 ((9 : Int) + (IntKind.wrap .i64 (Int.tmod (IntKind.wrap .u64 x0) (100 : Int)))))), (Value.int .i64 (0 : Int)), (Value.int .i64 (0 : Int)), (Value.int .i64 (0 : Int)), (Value.slice none 0 0)] (IntKind.wrap .i64 (Int.tmod (IntKind.wrap .u64 x2) (17 : Int))) H18 fun n27 H27 => cost_Op [(Value.int .i64 (7 : Int)), (Value.int .i64 (0 : Int)), (Value.int .i64 x1), (Value.int .i64 (0 : Int)), (Value.slice none 0 0)] (IntKind.wrap .i64 (Int.tmod (IntKind.wrap .u64 x2) (17 : Int))) H27 fun n32 H32 => bcase (((IntKind.wrap .i64 ((IntKind.wrap .i64 ((IntKind.wrap .i64 (n15 + n18)) + n27)) + n32)) : Int) == (0 : Int)) (cost_Op [(Value.int .i64 (5 : Int)), (Value.int .i64 (0 : Int)), (Value.int .i64 (0 : Int)), (Value.int .i64 (0 : Int)), (Value.slice none 0 0)] (IntKind.wrap .i64 (Int.tmod (IntKind.wrap .u64 x2) (17 : Int))) H32 fun n39 H39 => bcase ((n39 : Int) == (1 : Int)) (cost_Op [(Value.int .i64 (2 : Int)), (Value.int .i64 (0 : Int)), (Value.int .i64 (0 : Int)), (Value.int .i64 (0 : Int)), (Value.slice none 0 0)] (IntKind.wrap .i64 (Int.tmod (IntKind.wrap .u64 x2) (17 : Int))) H39 fun n45 H45 => bcase ((n45 : Int) == (IntKind.wrap .i64 ((36 : Int) + (IntKind.wrap .i64 ((4 : Int) * (IntKind.wrap .i64 (Int.tmod (IntKind.wrap .u64 x2) (17 : Int)))))))) (cost_Recover (17 : Int) H45 fun n52 H52 => bcase ((n52 : Int) == (0 : Int)) (cost_Format [(Value.int .i64 (0 : Int)), (Value.int .i64 (0 : Int)), (Value.int .i64 (0 : Int)), (Value.int .i64 (0 : Int))] H52 fun n57 H57 => bcase ((n57 : Int) == (0 : Int)) (plan_May [(Value.int .i64 (0 : Int)), (Value.int .i64 (0 : Int)), (Value.int .i64 (0 : Int)), (Value.int .i64 (0 : Int))] H57 fun b62 H62 => bcase (!b62) (darninglaw24_awake  H62 fun b66 H66 => k b66 H66) (k false H62)) (k false H57)) (k false H52)) (k false H45)) (k false H39)) (k false H32)
def darninglaw24_CostKinds.ann : Ann := { keep := fun r => match r with  | _ => [], ord := fun r => match r with  | _ => [] }
theorem darninglaw24_CostKinds.link {x0 : Int} {x1 : Int} {x2 : Int} {H : AH} {k : Bool → AH → Prop} (h : darninglaw24_CostKinds.b x0 x1 x2 H k) : darninglaw24_CostKinds x0 x1 x2 H k := by
  have e : wpC Try.prog T pan Try.f11.ntmps darninglaw24_CostKinds.ann (Try.f11.body.getD .skip) (argFr [(Value.int .i64 x0), (Value.int .i64 x1), (Value.int .i64 x2)]) H (bodyK T Try.f11.results.toList fun e H' => out1 .bool e noPan (fun r0 => k r0 H')) = darninglaw24_CostKinds.b x0 x1 x2 H k := by kernel_rfl
  have h1 : LCalls Try.prog 11 [(Value.int .i64 x0), (Value.int .i64 x1), (Value.int .i64 x2)] H (fun e H' => out1 .bool e noPan (fun r0 => k r0 H')) := lcalls_of hT hm Try.func11 (by kernel_rfl) darninglaw24_CostKinds.ann (Nat.le_of_ble_eq_true (by kernel_rfl)) (e.mpr h)
  exact h1.mono fun _ _ hq => out1_in (fun h => by cases h) hq

def slices_Clone_uint64uint64.b (x0 : Sl) (H : AH) (k : Sl → AH → Prop) : Prop :=
  bcase (Option.isNone x0.a) (k ⟨none, 0, 0⟩ H) (newC H ⟨[], .rw, 1⟩ fun o5 H5 => appendC 1 H5 ⟨(some ⟨o5, 0, none⟩), 0, 1⟩ x0 fun s7 H7 => k s7 H7)
def slices_Clone_uint64uint64.ann : Ann := { keep := fun r => match r with  | _ => [], ord := fun r => match r with  | _ => [] }
theorem slices_Clone_uint64uint64.link {x0 : Sl} {H : AH} {k : Sl → AH → Prop} (h : slices_Clone_uint64uint64.b x0 H k) : slices_Clone_uint64uint64 x0 H k := by
  have e : wpC Try.prog T pan Try.f61.ntmps slices_Clone_uint64uint64.ann (Try.f61.body.getD .skip) (argFr [(Sl.val x0)]) H (bodyK T Try.f61.results.toList fun e H' => out1 .sl e noPan (fun r0 => k r0 H')) = slices_Clone_uint64uint64.b x0 H k := by kernel_rfl
  have h1 : LCalls Try.prog 61 [(Sl.val x0)] H (fun e H' => out1 .sl e noPan (fun r0 => k r0 H')) := lcalls_of hT hm Try.func61 (by kernel_rfl) slices_Clone_uint64uint64.ann (Nat.le_of_ble_eq_true (by kernel_rfl)) (e.mpr h)
  exact h1.mono fun _ _ hq => out1_in (fun h => by cases h) hq

def span_Apply.j1 (s9 : Sl) (t3 : Int) (it3 : (Int) → AH → Prop) (o7 : Nat) (Hs2 : AH) (x25 : Bool) : Prop :=
  bcase x25 (elI .i64 (AH.cell? Hs2 (Addr.add ⟨o7, 0, none⟩ 0)) fun n28 => elI .u64 (AH.cell? Hs2 (Addr.add ⟨o7, 0, none⟩ 1)) fun n30 => (0 ≤ n28 ∧ n28 < ((s9.n : Nat) : Int)) ∧ onPtr s9.a fun a31 => stC Hs2 (Addr.add a31 (Int.toNat n28 * 1)) [(Value.int .u64 n30)] fun Hs4 => it3 (IntKind.wrap .i64 (t3 + (1 : Int))) Hs4) (it3 (IntKind.wrap .i64 (t3 + (1 : Int))) Hs2)
def span_Apply.l2 (x1 : Sl) (k : Sl → AH → Prop) (s9 : Sl) (t3 : Int) (HL3 : AH) (it3 : (Int) → AH → Prop) : Prop :=
  bcase (decide ((t3 : Int) < ((x1.n : Nat) : Int))) ((0 ≤ t3 ∧ t3 < ((x1.n : Nat) : Int)) ∧ onPtr x1.a fun a14 => ldA HL3 (Addr.add a14 (Int.toNat t3 * 2)) 2 fun c15 => newC HL3 ⟨[(Value.int .i64 (0 : Int)), (Value.int .u64 (0 : Int))], .rw, 0⟩ fun o7 H7 => (List.length c15 = 2 ∧ List.all c15 cellOK = true) ∧ stC H7 ⟨o7, 0, none⟩ c15 fun Hs2 => elI .i64 (AH.cell? Hs2 (Addr.add ⟨o7, 0, none⟩ 0)) fun n17 => bcase (decide ((n17 : Int) ≥ (0 : Int))) (elI .i64 (AH.cell? Hs2 (Addr.add ⟨o7, 0, none⟩ 0)) fun n21 => span_Apply.j1 s9 t3 it3 o7 Hs2 (decide ((n21 : Int) < ((s9.n : Nat) : Int)))) (span_Apply.j1 s9 t3 it3 o7 Hs2 false)) (k s9 HL3)
def span_Apply.b (x0 : Sl) (x1 : Sl) (H : AH) (k : Sl → AH → Prop) : Prop :=
  slices_Clone_uint64uint64 x0 H fun s9 H9 => loopT (span_Apply.l2 x1 k s9) (((0 : Int)) : Int) H9
def span_Apply.ann : Ann := { keep := fun r => match r with | 3 => [(12, .int .i64)] | _ => [], ord := fun r => match r with  | _ => [] }
theorem span_Apply.link {x0 : Sl} {x1 : Sl} {H : AH} {k : Sl → AH → Prop} (h : span_Apply.b x0 x1 H k) : span_Apply x0 x1 H k := by
  have e : wpC Try.prog T pan Try.f43.ntmps span_Apply.ann (Try.f43.body.getD .skip) (argFr [(Sl.val x0), (Sl.val x1)]) H (bodyK T Try.f43.results.toList fun e H' => out1 .sl e noPan (fun r0 => k r0 H')) = span_Apply.b x0 x1 H k := by kernel_rfl
  have h1 : LCalls Try.prog 43 [(Sl.val x0), (Sl.val x1)] H (fun e H' => out1 .sl e noPan (fun r0 => k r0 H')) := lcalls_of hT hm Try.func43 (by kernel_rfl) span_Apply.ann (Nat.le_of_ble_eq_true (by kernel_rfl)) (e.mpr h)
  exact h1.mono fun _ _ hq => out1_in (fun h => by cases h) hq

def darninglaw18_SpanBack.j1 (x0 : Sl) (x1 : Int) (x2 : Sl) (x3 : Int) (k : Bool → AH → Prop) (s88a : Sl) (s94a : Sl) (HL15 : AH) : Prop :=
  bcase (decide (((IntKind.wrap .i64 (Int.tmod (IntKind.wrap .u64 x3) (IntKind.wrap .u64 (IntKind.wrap .i64 ((8 : Int) * ((x0.n : Nat) : Int)))))) : Int) ≥ (IntKind.wrap .i64 (Int.tmod (IntKind.wrap .u64 x1) (IntKind.wrap .u64 (IntKind.wrap .i64 ((8 : Int) * ((x0.n : Nat) : Int)))))))) (bcase (decide (((IntKind.wrap .i64 (Int.tmod (IntKind.wrap .u64 x3) (IntKind.wrap .u64 (IntKind.wrap .i64 ((8 : Int) * ((x0.n : Nat) : Int)))))) : Int) < (IntKind.wrap .i64 ((IntKind.wrap .i64 (Int.tmod (IntKind.wrap .u64 x1) (IntKind.wrap .u64 (IntKind.wrap .i64 ((8 : Int) * ((x0.n : Nat) : Int)))))) + ((x2.n : Nat) : Int))))) (darninglaw18_awake  HL15 fun b173 H173 => k b173 H173) (strC HL15 s88a fun y167 => strC HL15 s94a fun y169 => bcase (ByteArray.toList ⟨List.toArray y167⟩ == ByteArray.toList ⟨List.toArray y169⟩) (darninglaw18_awake  HL15 fun b173 H173 => k b173 H173) (k false HL15))) (strC HL15 s88a fun y167 => strC HL15 s94a fun y169 => bcase (ByteArray.toList ⟨List.toArray y167⟩ == ByteArray.toList ⟨List.toArray y169⟩) (darninglaw18_awake  HL15 fun b173 H173 => k b173 H173) (k false HL15))
def darninglaw18_SpanBack.l2 (x0 : Sl) (x1 : Int) (x2 : Sl) (x3 : Int) (k : Bool → AH → Prop) (s45a : Sl) (s88a : Sl) (s94a : Sl) (t15 : Bool × Int) (HL15 : AH) (it15 : (Bool × Int) → AH → Prop) : Prop :=
  bcase (decide ((t15.2 : Int) < ((s45a.n : Nat) : Int))) ((0 ≤ t15.2 ∧ t15.2 < ((s45a.n : Nat) : Int)) ∧ onPtr s45a.a fun a143 => elI .i64 (AH.cell? HL15 (Addr.add (Addr.add a143 (Int.toNat t15.2 * 2)) 0)) fun n145 => (0 ≤ (IntKind.wrap .i64 (t15.2 - (1 : Int))) ∧ (IntKind.wrap .i64 (t15.2 - (1 : Int))) < ((s45a.n : Nat) : Int)) ∧ onPtr s45a.a fun a149 => elI .i64 (AH.cell? HL15 (Addr.add (Addr.add a149 (Int.toNat (IntKind.wrap .i64 (t15.2 - (1 : Int))) * 2)) 0)) fun n151 => bcase ((n145 : Int) != (IntKind.wrap .i64 (n151 + (1 : Int)))) (k false HL15) (it15 (t15.1, (IntKind.wrap .i64 (t15.2 + (1 : Int)))) HL15)) (darninglaw18_SpanBack.j1 x0 x1 x2 x3 k s88a s94a HL15)
def darninglaw18_SpanBack.j3 (x0 : Sl) (x1 : Int) (x2 : Sl) (x3 : Int) (k : Bool → AH → Prop) (s45a : Sl) (s88a : Sl) (s94a : Sl) (x134 : Bool) (Hj : AH) : Prop :=
  bcase x134 (k false Hj) (loopT (darninglaw18_SpanBack.l2 x0 x1 x2 x3 k s45a s88a s94a) ((false, (1 : Int)) : Bool × Int) Hj)
def darninglaw18_SpanBack.j4 (x0 : Sl) (x1 : Int) (x2 : Sl) (x3 : Int) (H : AH) (k : Bool → AH → Prop) (x31 : Bool) : Prop :=
  bcase x31 (darninglaw18_awake  H fun b32 H32 => k b32 H32) (((IntKind.wrap .u64 (IntKind.wrap .i64 ((8 : Int) * ((x0.n : Nat) : Int)))) : Int) ≠ 0 ∧ span_Edits x0 (IntKind.wrap .i64 (Int.tmod (IntKind.wrap .u64 x1) (IntKind.wrap .u64 (IntKind.wrap .i64 ((8 : Int) * ((x0.n : Nat) : Int)))))) x2 H fun s45a b45b H45 => bcase (decide (((IntKind.wrap .i64 ((IntKind.wrap .i64 (Int.tmod (IntKind.wrap .u64 x1) (IntKind.wrap .u64 (IntKind.wrap .i64 ((8 : Int) * ((x0.n : Nat) : Int)))))) + ((x2.n : Nat) : Int))) : Int) > (IntKind.wrap .i64 ((8 : Int) * ((x0.n : Nat) : Int))))) (bcase (!b45b) (bcase ((((s45a.n : Nat) : Int) : Int) == (0 : Int)) (darninglaw18_awake  H45 fun b64 H64 => k b64 H64) (k false H45)) (k false H45)) (span_Apply x0 s45a H45 fun s68 H68 => span_Read s68 (IntKind.wrap .i64 (Int.tmod (IntKind.wrap .u64 x1) (IntKind.wrap .u64 (IntKind.wrap .i64 ((8 : Int) * ((x0.n : Nat) : Int)))))) ((x2.n : Nat) : Int) H68 fun s74a b74b H74 => ((IntKind.wrap .u64 (IntKind.wrap .i64 ((8 : Int) * ((x0.n : Nat) : Int)))) : Int) ≠ 0 ∧ span_Read s68 (IntKind.wrap .i64 (Int.tmod (IntKind.wrap .u64 x3) (IntKind.wrap .u64 (IntKind.wrap .i64 ((8 : Int) * ((x0.n : Nat) : Int)))))) (1 : Int) H74 fun s88a b88b H88 => span_Read x0 (IntKind.wrap .i64 (Int.tmod (IntKind.wrap .u64 x3) (IntKind.wrap .u64 (IntKind.wrap .i64 ((8 : Int) * ((x0.n : Nat) : Int)))))) (1 : Int) H88 fun s94a b94b H94 => bcase (!b45b) (darninglaw18_SpanBack.j3 x0 x1 x2 x3 k s45a s88a s94a true H94) (bcase (!b74b) (darninglaw18_SpanBack.j3 x0 x1 x2 x3 k s45a s88a s94a true H94) (bcase (!b88b) (darninglaw18_SpanBack.j3 x0 x1 x2 x3 k s45a s88a s94a true H94) (bcase (!b94b) (darninglaw18_SpanBack.j3 x0 x1 x2 x3 k s45a s88a s94a true H94) (strC H94 s74a fun y113 => strC H94 x2 fun y115 => bcase (!(ByteArray.toList ⟨List.toArray y113⟩ == ByteArray.toList ⟨List.toArray y115⟩)) (darninglaw18_SpanBack.j3 x0 x1 x2 x3 k s45a s88a s94a true H94) (bcase ((((s68.n : Nat) : Int) : Int) != ((x0.n : Nat) : Int)) (darninglaw18_SpanBack.j3 x0 x1 x2 x3 k s45a s88a s94a true H94) (span_Pieces (IntKind.wrap .i64 (Int.tmod (IntKind.wrap .u64 x1) (IntKind.wrap .u64 (IntKind.wrap .i64 ((8 : Int) * ((x0.n : Nat) : Int)))))) ((x2.n : Nat) : Int) H94 fun s131 H131 => darninglaw18_SpanBack.j3 x0 x1 x2 x3 k s45a s88a s94a ((((s45a.n : Nat) : Int) : Int) != ((s131.n : Nat) : Int)) H131))))))))
def darninglaw18_SpanBack.b (x0 : Sl) (x1 : Int) (x2 : Sl) (x3 : Int) (H : AH) (k : Bool → AH → Prop) : Prop :=
  bcase (decide ((((x0.n : Nat) : Int) : Int) > (300 : Int))) (darninglaw18_SpanBack.j4 x0 x1 x2 x3 H k true) (bcase ((((x0.n : Nat) : Int) : Int) == (0 : Int)) (darninglaw18_SpanBack.j4 x0 x1 x2 x3 H k true) (darninglaw18_SpanBack.j4 x0 x1 x2 x3 H k (decide ((((x2.n : Nat) : Int) : Int) > (448 : Int)))))
def darninglaw18_SpanBack.ann : Ann := { keep := fun r => match r with | 15 => [(8, .bool), (18, .int .i64)] | _ => [], ord := fun r => match r with | 17 => [0, 1, 2, 3, 4, 5, 6, 7, 8, 9, 10, 11, 12] | _ => [] }
theorem darninglaw18_SpanBack.link {x0 : Sl} {x1 : Int} {x2 : Sl} {x3 : Int} {H : AH} {k : Bool → AH → Prop} (h : darninglaw18_SpanBack.b x0 x1 x2 x3 H k) : darninglaw18_SpanBack x0 x1 x2 x3 H k := by
  have e : wpC Try.prog T pan Try.f12.ntmps darninglaw18_SpanBack.ann (Try.f12.body.getD .skip) (argFr [(Sl.val x0), (Value.int .i64 x1), (Sl.val x2), (Value.int .i64 x3)]) H (bodyK T Try.f12.results.toList fun e H' => out1 .bool e noPan (fun r0 => k r0 H')) = darninglaw18_SpanBack.b x0 x1 x2 x3 H k := by kernel_rfl
  have h1 : LCalls Try.prog 12 [(Sl.val x0), (Value.int .i64 x1), (Sl.val x2), (Value.int .i64 x3)] H (fun e H' => out1 .bool e noPan (fun r0 => k r0 H')) := lcalls_of hT hm Try.func12 (by kernel_rfl) darninglaw18_SpanBack.ann (Nat.le_of_ble_eq_true (by kernel_rfl)) (e.mpr h)
  exact h1.mono fun _ _ hq => out1_in (fun h => by cases h) hq

def darningref4_SameWords.l1 (x0 : Sl) (x1 : Sl) (k : Bool → AH → Prop) (t4 : Bool × Int) (HL4 : AH) (it4 : (Bool × Int) → AH → Prop) : Prop :=
  bcase (decide ((t4.2 : Int) < ((x0.n : Nat) : Int))) ((0 ≤ t4.2 ∧ t4.2 < ((x0.n : Nat) : Int)) ∧ onPtr x0.a fun a18 => elI .u64 (AH.cell? HL4 (Addr.add a18 (Int.toNat t4.2 * 1))) fun n19 => (0 ≤ t4.2 ∧ t4.2 < ((x1.n : Nat) : Int)) ∧ onPtr x1.a fun a22 => elI .u64 (AH.cell? HL4 (Addr.add a22 (Int.toNat t4.2 * 1))) fun n23 => bcase ((n19 : Int) != n23) (k false HL4) (it4 (t4.1, (IntKind.wrap .i64 (t4.2 + (1 : Int)))) HL4)) (k true HL4)
def darningref4_SameWords.b (x0 : Sl) (x1 : Sl) (H : AH) (k : Bool → AH → Prop) : Prop :=
  bcase ((((x0.n : Nat) : Int) : Int) != ((x1.n : Nat) : Int)) (k false H) (loopT (darningref4_SameWords.l1 x0 x1 k) ((false, (0 : Int)) : Bool × Int) H)
def darningref4_SameWords.ann : Ann := { keep := fun r => match r with | 4 => [(4, .bool), (13, .int .i64)] | _ => [], ord := fun r => match r with | 6 => [0, 1, 2, 3, 4, 5, 6, 7, 8] | _ => [] }
theorem darningref4_SameWords.link {x0 : Sl} {x1 : Sl} {H : AH} {k : Bool → AH → Prop} (h : darningref4_SameWords.b x0 x1 H k) : darningref4_SameWords x0 x1 H k := by
  have e : wpC Try.prog T pan Try.f45.ntmps darningref4_SameWords.ann (Try.f45.body.getD .skip) (argFr [(Sl.val x0), (Sl.val x1)]) H (bodyK T Try.f45.results.toList fun e H' => out1 .bool e noPan (fun r0 => k r0 H')) = darningref4_SameWords.b x0 x1 H k := by kernel_rfl
  have h1 : LCalls Try.prog 45 [(Sl.val x0), (Sl.val x1)] H (fun e H' => out1 .bool e noPan (fun r0 => k r0 H')) := lcalls_of hT hm Try.func45 (by kernel_rfl) darningref4_SameWords.ann (Nat.le_of_ble_eq_true (by kernel_rfl)) (e.mpr h)
  exact h1.mono fun _ _ hq => out1_in (fun h => by cases h) hq

def darninglaw18_SpanTwice.j1 (x0 : Sl) (x1 : Int) (x2 : Sl) (x3 : Int) (H : AH) (k : Bool → AH → Prop) (x32 : Bool) : Prop :=
  bcase x32 (darninglaw18_awake  H fun b33 H33 => k b33 H33) (((IntKind.wrap .u64 (IntKind.wrap .i64 ((8 : Int) * ((x0.n : Nat) : Int)))) : Int) ≠ 0 ∧ bcase (decide (((IntKind.wrap .i64 ((IntKind.wrap .i64 (Int.tmod (IntKind.wrap .u64 x1) (IntKind.wrap .u64 (IntKind.wrap .i64 ((8 : Int) * ((x0.n : Nat) : Int)))))) + ((x2.n : Nat) : Int))) : Int) > (IntKind.wrap .i64 ((8 : Int) * ((x0.n : Nat) : Int))))) (darninglaw18_awake  H fun b50 H50 => k b50 H50) (((IntKind.wrap .u64 (IntKind.wrap .i64 (((x2.n : Nat) : Int) + (1 : Int)))) : Int) ≠ 0 ∧ span_Edits x0 (IntKind.wrap .i64 (Int.tmod (IntKind.wrap .u64 x1) (IntKind.wrap .u64 (IntKind.wrap .i64 ((8 : Int) * ((x0.n : Nat) : Int)))))) x2 H fun s63a b63b H63 => (0 ≤ (IntKind.wrap .i64 (Int.tmod (IntKind.wrap .u64 x3) (IntKind.wrap .u64 (IntKind.wrap .i64 (((x2.n : Nat) : Int) + (1 : Int)))))) ∧ (IntKind.wrap .i64 (Int.tmod (IntKind.wrap .u64 x3) (IntKind.wrap .u64 (IntKind.wrap .i64 (((x2.n : Nat) : Int) + (1 : Int)))))) ≤ ((x2.n : Nat) : Int)) ∧ span_Edits x0 (IntKind.wrap .i64 (Int.tmod (IntKind.wrap .u64 x1) (IntKind.wrap .u64 (IntKind.wrap .i64 ((8 : Int) * ((x0.n : Nat) : Int)))))) ⟨x2.a, (Int.toNat (IntKind.wrap .i64 (Int.tmod (IntKind.wrap .u64 x3) (IntKind.wrap .u64 (IntKind.wrap .i64 (((x2.n : Nat) : Int) + (1 : Int))))))), 0⟩ H63 fun s72a b72b H72 => span_Apply x0 s72a H72 fun s77 H77 => (0 ≤ (IntKind.wrap .i64 (Int.tmod (IntKind.wrap .u64 x3) (IntKind.wrap .u64 (IntKind.wrap .i64 (((x2.n : Nat) : Int) + (1 : Int)))))) ∧ (IntKind.wrap .i64 (Int.tmod (IntKind.wrap .u64 x3) (IntKind.wrap .u64 (IntKind.wrap .i64 (((x2.n : Nat) : Int) + (1 : Int)))))) ≤ ((x2.n : Nat) : Int)) ∧ span_Edits s77 (IntKind.wrap .i64 ((IntKind.wrap .i64 (Int.tmod (IntKind.wrap .u64 x1) (IntKind.wrap .u64 (IntKind.wrap .i64 ((8 : Int) * ((x0.n : Nat) : Int)))))) + (IntKind.wrap .i64 (Int.tmod (IntKind.wrap .u64 x3) (IntKind.wrap .u64 (IntKind.wrap .i64 (((x2.n : Nat) : Int) + (1 : Int)))))))) ⟨(Option.map (fun x => Addr.add x (Int.toNat (IntKind.wrap .i64 (Int.tmod (IntKind.wrap .u64 x3) (IntKind.wrap .u64 (IntKind.wrap .i64 (((x2.n : Nat) : Int) + (1 : Int)))))) * 1)) x2.a), (x2.n - Int.toNat (IntKind.wrap .i64 (Int.tmod (IntKind.wrap .u64 x3) (IntKind.wrap .u64 (IntKind.wrap .i64 (((x2.n : Nat) : Int) + (1 : Int))))))), 0⟩ H77 fun s86a b86b H86 => span_Apply x0 s63a H86 fun s91 H91 => span_Edits s91 (IntKind.wrap .i64 (Int.tmod (IntKind.wrap .u64 x1) (IntKind.wrap .u64 (IntKind.wrap .i64 ((8 : Int) * ((x0.n : Nat) : Int)))))) x2 H91 fun s96a b96b H96 => bcase b63b (bcase b72b (bcase b86b (bcase b96b (span_Apply s77 s86a H96 fun s112 H112 => darningref4_SameWords s112 s91 H112 fun b114 H114 => bcase b114 (span_Apply s91 s96a H114 fun s119 H119 => darningref4_SameWords s119 s91 H119 fun b121 H121 => bcase b121 (darninglaw18_awake  H121 fun b124 H124 => k b124 H124) (k false H121)) (k false H114)) (k false H96)) (k false H96)) (k false H96)) (k false H96)))
def darninglaw18_SpanTwice.b (x0 : Sl) (x1 : Int) (x2 : Sl) (x3 : Int) (H : AH) (k : Bool → AH → Prop) : Prop :=
  bcase (decide ((((x0.n : Nat) : Int) : Int) > (200 : Int))) (darninglaw18_SpanTwice.j1 x0 x1 x2 x3 H k true) (bcase ((((x0.n : Nat) : Int) : Int) == (0 : Int)) (darninglaw18_SpanTwice.j1 x0 x1 x2 x3 H k true) (darninglaw18_SpanTwice.j1 x0 x1 x2 x3 H k (decide ((((x2.n : Nat) : Int) : Int) > (448 : Int)))))
def darninglaw18_SpanTwice.ann : Ann := { keep := fun r => match r with  | _ => [], ord := fun r => match r with  | _ => [] }
theorem darninglaw18_SpanTwice.link {x0 : Sl} {x1 : Int} {x2 : Sl} {x3 : Int} {H : AH} {k : Bool → AH → Prop} (h : darninglaw18_SpanTwice.b x0 x1 x2 x3 H k) : darninglaw18_SpanTwice x0 x1 x2 x3 H k := by
  have e : wpC Try.prog T pan Try.f13.ntmps darninglaw18_SpanTwice.ann (Try.f13.body.getD .skip) (argFr [(Sl.val x0), (Value.int .i64 x1), (Sl.val x2), (Value.int .i64 x3)]) H (bodyK T Try.f13.results.toList fun e H' => out1 .bool e noPan (fun r0 => k r0 H')) = darninglaw18_SpanTwice.b x0 x1 x2 x3 H k := by kernel_rfl
  have h1 : LCalls Try.prog 13 [(Sl.val x0), (Value.int .i64 x1), (Sl.val x2), (Value.int .i64 x3)] H (fun e H' => out1 .bool e noPan (fun r0 => k r0 H')) := lcalls_of hT hm Try.func13 (by kernel_rfl) darninglaw18_SpanTwice.ann (Nat.le_of_ble_eq_true (by kernel_rfl)) (e.mpr h)
  exact h1.mono fun _ _ hq => out1_in (fun h => by cases h) hq

end Go.Proofs.Ytmbipadfcbndgaa
