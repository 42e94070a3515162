import Derived.Test.YtgddfhnochcolaaAbsTwo
import Derived.Test.YtgddfhnochcolaaProg
set_option linter.all false
namespace Go.Proofs.Ytgddfhnochcolaa
open Go Go.Abs
set_option linter.unusedVariables false
set_option maxRecDepth 100000

def tyL : List (Nat × TyE) := [
  (3, { k := .int .i64, sub := .none, size := 1, bytes := 8, zero := [(Value.int .i64 (0 : Int))], eqs := false }),
  (4, { k := .bool, sub := .none, size := 1, bytes := 1, zero := [(Value.bool false)], eqs := false }),
  (5, { k := .int .u8, sub := .none, size := 1, bytes := 1, zero := [(Value.int .u8 (0 : Int))], eqs := false }),
  (9, { k := .str, sub := .none, size := 1, bytes := 16, zero := [(Value.string ⟨#[]⟩)], eqs := false }),
  (22, { k := .ptr, sub := (.elem 93), size := 1, bytes := 8, zero := [(Value.pointer none)], eqs := false }),
  (24, { k := .ptr, sub := (.elem 69), size := 1, bytes := 8, zero := [(Value.pointer none)], eqs := false }),
  (27, { k := .int .u64, sub := .none, size := 1, bytes := 8, zero := [(Value.int .u64 (0 : Int))], eqs := false }),
  (28, { k := .sl, sub := (.elem 3), size := 1, bytes := 24, zero := [(Value.slice none 0 0)], eqs := false }),
  (31, { k := .int .i64, sub := .none, size := 1, bytes := 8, zero := [(Value.int .i64 (0 : Int))], eqs := false }),
  (34, { k := .sl, sub := (.elem 98), size := 1, bytes := 24, zero := [(Value.slice none 0 0)], eqs := false }),
  (37, { k := .sl, sub := (.elem 5), size := 1, bytes := 24, zero := [(Value.slice none 0 0)], eqs := false }),
  (43, { k := .sl, sub := (.elem 50), size := 1, bytes := 24, zero := [(Value.slice none 0 0)], eqs := false }),
  (50, { k := .agg, sub := (.fields [(0, 3), (1, 3), (2, 3), (3, 37)]), size := 4, bytes := 48, zero := [(Value.int .i64 (0 : Int)), (Value.int .i64 (0 : Int)), (Value.int .i64 (0 : Int)), (Value.slice none 0 0)], eqs := false }),
  (54, { k := .sl, sub := (.elem 65), size := 1, bytes := 24, zero := [(Value.slice none 0 0)], eqs := false }),
  (55, { k := .ptr, sub := (.elem 112), size := 1, bytes := 8, zero := [(Value.pointer none)], eqs := false }),
  (57, { k := .ptr, sub := (.elem 59), size := 1, bytes := 8, zero := [(Value.pointer none)], eqs := false }),
  (59, { k := .agg, sub := (.fields [(0, 24), (1, 4)]), size := 2, bytes := 16, zero := [(Value.pointer none), (Value.bool false)], eqs := false }),
  (61, { k := .agg, sub := (.fields [(0, 3), (1, 3), (2, 3), (3, 3), (4, 37)]), size := 5, bytes := 56, zero := [(Value.int .i64 (0 : Int)), (Value.int .i64 (0 : Int)), (Value.int .i64 (0 : Int)), (Value.int .i64 (0 : Int)), (Value.slice none 0 0)], eqs := false }),
  (63, { k := .agg, sub := (.fields [(0, 31), (1, 3), (2, 37)]), size := 3, bytes := 40, zero := [(Value.int .i64 (0 : Int)), (Value.int .i64 (0 : Int)), (Value.slice none 0 0)], eqs := false }),
  (65, { k := .agg, sub := (.fields [(0, 61), (5, 63)]), size := 8, bytes := 96, zero := [(Value.int .i64 (0 : Int)), (Value.int .i64 (0 : Int)), (Value.int .i64 (0 : Int)), (Value.int .i64 (0 : Int)), (Value.slice none 0 0), (Value.int .i64 (0 : Int)), (Value.int .i64 (0 : Int)), (Value.slice none 0 0)], eqs := false }),
  (67, { k := .sl, sub := (.elem 27), size := 1, bytes := 24, zero := [(Value.slice none 0 0)], eqs := false }),
  (69, { k := .agg, sub := (.fields [(0, 67), (1, 3)]), size := 2, bytes := 32, zero := [(Value.slice none 0 0), (Value.int .i64 (0 : Int))], eqs := false }),
  (74, { k := .sl, sub := (.elem 117), size := 1, bytes := 24, zero := [(Value.slice none 0 0)], eqs := false }),
  (75, { k := .sl, sub := (.elem 78), size := 1, bytes := 24, zero := [(Value.slice none 0 0)], eqs := false }),
  (78, { k := .agg, sub := (.fields [(0, 3), (1, 3), (2, 3)]), size := 3, bytes := 24, zero := [(Value.int .i64 (0 : Int)), (Value.int .i64 (0 : Int)), (Value.int .i64 (0 : Int))], eqs := true }),
  (91, { k := .sl, sub := (.elem 103), size := 1, bytes := 24, zero := [(Value.slice none 0 0)], eqs := false }),
  (93, { k := .agg, sub := (.fields [(0, 3), (1, 91), (2, 3)]), size := 3, bytes := 40, zero := [(Value.int .i64 (0 : Int)), (Value.slice none 0 0), (Value.int .i64 (0 : Int))], eqs := false }),
  (98, { k := .agg, sub := (.fields [(0, 3), (1, 3), (2, 4)]), size := 3, bytes := 24, zero := [(Value.int .i64 (0 : Int)), (Value.int .i64 (0 : Int)), (Value.bool false)], eqs := true }),
  (103, { k := .agg, sub := (.fields [(0, 3), (1, 3), (2, 37)]), size := 3, bytes := 40, zero := [(Value.int .i64 (0 : Int)), (Value.int .i64 (0 : Int)), (Value.slice none 0 0)], eqs := false }),
  (108, { k := .sl, sub := (.elem 110), size := 1, bytes := 24, zero := [(Value.slice none 0 0)], eqs := false }),
  (110, { k := .agg, sub := (.fields [(0, 3), (1, 3), (2, 3), (3, 3), (4, 37)]), size := 5, bytes := 56, zero := [(Value.int .i64 (0 : Int)), (Value.int .i64 (0 : Int)), (Value.int .i64 (0 : Int)), (Value.int .i64 (0 : Int)), (Value.slice none 0 0)], eqs := false }),
  (112, { k := .agg, sub := (.fields [(0, 22), (1, 4)]), size := 2, bytes := 16, zero := [(Value.pointer none), (Value.bool false)], eqs := false }),
  (117, { k := .agg, sub := (.fields [(0, 3), (1, 27)]), size := 2, bytes := 16, zero := [(Value.int .i64 (0 : Int)), (Value.int .u64 (0 : Int))], eqs := true }),
  (119, { k := .int .u64, sub := .none, size := 1, bytes := 8, zero := [(Value.int .u64 (0 : Int))], eqs := false }),
  (129, { k := .any, sub := .none, size := 1, bytes := 8, zero := [Value.nilFunc], eqs := false }),
  (0, { k := .bad, sub := .tup [], size := 0, bytes := 0, zero := [], eqs := false }),
  (40, { k := .bad, sub := .tup [37, 31], size := 0, bytes := 0, zero := [], eqs := false }),
  (79, { k := .bad, sub := .tup [37, 4], size := 0, bytes := 0, zero := [], eqs := false }),
  (81, { k := .bad, sub := .tup [74, 4], size := 0, bytes := 0, zero := [], eqs := false }),
  (114, { k := .bad, sub := .tup [34, 4], size := 0, bytes := 0, zero := [], eqs := false }),
  (131, { k := .bad, sub := .tup [74, 31], size := 0, bytes := 0, zero := [], eqs := false }),
  (137, { k := .bad, sub := .tup [3, 4, 4], size := 0, bytes := 0, zero := [], eqs := false }),
  (143, { k := .bad, sub := .tup [34, 3, 4], size := 0, bytes := 0, zero := [], eqs := false })]
def T : Nat → TyE := tyLook tyL
theorem hT : Agrees Try.prog T := agrees_of (by kernel_rfl)
theorem hm : Try.prog.follows .mixedOrders = true := by kernel_rfl
def pan (f : Nat) : Bool := ([] : List Nat).contains f

def slices_Insert_extent (x0 : Sl) (x1 : Int) (x2 : Sl) (H : AH) (k : Sl → AH → Prop) : Prop :=
  LCalls Try.prog 63 [(Sl.val x0), (Value.int .i64 x1), (Sl.val x2)] H fun e H' => in1 .sl e noPan (fun r0 => k r0 H')

def slices_IndexFunc_extent (x0 : Sl) (x1 : Value) (H : AH) (k : Int → AH → Prop) : Prop :=
  LCalls Try.prog 92 [(Sl.val x0), x1] H fun e H' => in1 (.int .i64) e noPan (fun r0 => k r0 H')

def slices_Delete_extent (x0 : Sl) (x1 : Int) (x2 : Int) (H : AH) (k : Sl → AH → Prop) : Prop :=
  LCalls Try.prog 65 [(Sl.val x0), (Value.int .i64 x1), (Value.int .i64 x2)] H fun e H' => in1 .sl e noPan (fun r0 => k r0 H')

def slices_Sort_intint (x0 : Sl) (H : AH) (k : AH → Prop) : Prop :=
  LCalls Try.prog 84 [(Sl.val x0)] H fun e H' => in0  e noPan (k H')

def slices_Compact_intint (x0 : Sl) (H : AH) (k : Sl → AH → Prop) : Prop :=
  LCalls Try.prog 85 [(Sl.val x0)] H fun e H' => in1 .sl e noPan (fun r0 => k r0 H')

def slices_IndexFunc_extent_at_model_Model_find_1 (x0 : Sl) (x1b0 : Option Addr) (H : AH) (k : Int → AH → Prop) : Prop :=
  LCalls Try.prog 92 [(Sl.val x0), (Value.func (.func 93) #[] #[(Value.pointer x1b0)])] H fun e H' => in1 (.int .i64) e noPan (fun r0 => k r0 H')

def chain_mayWords (x0 : Int) (H : AH) (k : Bool → AH → Prop) : Prop :=
  LCalls Try.prog 86 [(Value.int .i64 x0)] H fun e H' => in1 .bool e noPan (fun r0 => k r0 H')

def block_May (x0 : Int) (H : AH) (k : Bool → AH → Prop) : Prop :=
  LCalls Try.prog 107 [(Value.int .i64 x0)] H fun e H' => in1 .bool e noPan (fun r0 => k r0 H')

def block_Word (x0 : Int) (x1 : Bool) (H : AH) (k : Int → AH → Prop) : Prop :=
  LCalls Try.prog 87 [(Value.int .i64 x0), (Value.bool x1)] H fun e H' => in1 (.int .u64) e noPan (fun r0 => k r0 H')

def chain_First (x0 : Int) (H : AH) (k : Sl → AH → Prop) : Prop :=
  LCalls Try.prog 54 [(Value.int .i64 x0)] H fun e H' => in1 .sl e noPan (fun r0 => k r0 H')

def model_New (x0 : Int) (H : AH) (k : Option Addr → AH → Prop) : Prop :=
  LCalls Try.prog 14 [(Value.int .i64 x0)] H fun e H' => in1 .ptr e noPan (fun r0 => k r0 H')

def darningref4_mayWords (x0 : Int) (H : AH) (k : Bool → AH → Prop) : Prop :=
  LCalls Try.prog 55 [(Value.int .i64 x0)] H fun e H' => in1 .bool e noPan (fun r0 => k r0 H')

def darningref4_MaySize (x0 : Int) (H : AH) (k : Bool → AH → Prop) : Prop :=
  LCalls Try.prog 108 [(Value.int .i64 x0)] H fun e H' => in1 .bool e noPan (fun r0 => k r0 H')

def darningref4_Word (x0 : Int) (x1 : Bool) (H : AH) (k : Int → AH → Prop) : Prop :=
  LCalls Try.prog 88 [(Value.int .i64 x0), (Value.bool x1)] H fun e H' => in1 (.int .u64) e noPan (fun r0 => k r0 H')

def darningref4_First (x0 : Int) (H : AH) (k : Sl → AH → Prop) : Prop :=
  LCalls Try.prog 56 [(Value.int .i64 x0)] H fun e H' => in1 .sl e noPan (fun r0 => k r0 H')

def darningref4_NewModel (x0 : Int) (H : AH) (k : Option Addr → AH → Prop) : Prop :=
  LCalls Try.prog 15 [(Value.int .i64 x0)] H fun e H' => in1 .ptr e noPan (fun r0 => k r0 H')

def slices_Clone_extent (x0 : Sl) (H : AH) (k : Sl → AH → Prop) : Prop :=
  LCalls Try.prog 66 [(Sl.val x0)] H fun e H' => in1 .sl e noPan (fun r0 => k r0 H')

def model_Model_Blocks (x0 : Option Addr) (H : AH) (k : Sl → AH → Prop) : Prop :=
  LCalls Try.prog 22 [(Value.pointer x0)] H fun e H' => in1 .sl e noPan (fun r0 => k r0 H')

def fit_Need (x0 : Int) (H : AH) (k : Int → AH → Prop) : Prop :=
  LCalls Try.prog 58 [(Value.int .i64 x0)] H fun e H' => in1 (.int .i64) e noPan (fun r0 => k r0 H')

def fit_Fits (x0 : Sl) (x1 : Int) (H : AH) (k : Sl → AH → Prop) : Prop :=
  LCalls Try.prog 57 [(Sl.val x0), (Value.int .i64 x1)] H fun e H' => in1 .sl e noPan (fun r0 => k r0 H')

def carve_Off (x0 : List Value) (H : AH) (k : Int → AH → Prop) : Prop :=
  LCalls Try.prog 59 [(Value.agg (List.toArray x0))] H fun e H' => in1 (.int .i64) e noPan (fun r0 => k r0 H')

def model_Model_Fits (x0 : Option Addr) (x1 : Int) (H : AH) (k : Sl → AH → Prop) : Prop :=
  LCalls Try.prog 17 [(Value.pointer x0), (Value.int .i64 x1)] H fun e H' => in1 .sl e noPan (fun r0 => k r0 H')

def slices_Index_intint (x0 : Sl) (x1 : Int) (H : AH) (k : Int → AH → Prop) : Prop :=
  LCalls Try.prog 89 [(Sl.val x0), (Value.int .i64 x1)] H fun e H' => in1 (.int .i64) e noPan (fun r0 => k r0 H')

def slices_Contains_intint (x0 : Sl) (x1 : Int) (H : AH) (k : Bool → AH → Prop) : Prop :=
  LCalls Try.prog 60 [(Sl.val x0), (Value.int .i64 x1)] H fun e H' => in1 .bool e noPan (fun r0 => k r0 H')

def chain_At (x0 : Sl) (x1 : Int) (H : AH) (k : Int → AH → Prop) : Prop :=
  LCalls Try.prog 61 [(Sl.val x0), (Value.int .i64 x1)] H fun e H' => in1 (.int .i64) e noPan (fun r0 => k r0 H')

def fit_Takes (x0 : Int) (x1 : Int) (H : AH) (k : Int → AH → Prop) : Prop :=
  LCalls Try.prog 62 [(Value.int .i64 x0), (Value.int .i64 x1)] H fun e H' => in1 (.int .i64) e noPan (fun r0 => k r0 H')

def model_Model_Alloc (x0 : Option Addr) (x1 : Int) (x2 : Int) (H : AH) (k : Bool → AH → Prop) : Prop :=
  LCalls Try.prog 18 [(Value.pointer x0), (Value.int .i64 x1), (Value.int .i64 x2)] H fun e H' => in1 .bool e noPan (fun r0 => k r0 H')

def model_extent_off (x0 : List Value) (H : AH) (k : Int → AH → Prop) : Prop :=
  LCalls Try.prog 94 [(Value.agg (List.toArray x0))] H fun e H' => in1 (.int .i64) e noPan (fun r0 => k r0 H')

def model_Model_bytes (x0 : Option Addr) (x1 : Int) (x2 : Int) (H : AH) (k : Sl → Int → AH → Prop) : Prop :=
  LCalls Try.prog 67 [(Value.pointer x0), (Value.int .i64 x1), (Value.int .i64 x2)] H fun e H' => in2 .sl (.int .i64) e noPan (fun r0 r1 => k r0 r1 H')

def model_Model_Write (x0 : Option Addr) (x1 : Int) (x2 : Sl) (H : AH) (k : Int → AH → Prop) : Prop :=
  LCalls Try.prog 24 [(Value.pointer x0), (Value.int .i64 x1), (Sl.val x2)] H fun e H' => in1 (.int .i64) e noPan (fun r0 => k r0 H')

def slices_Clone_bytebyte (x0 : Sl) (H : AH) (k : Sl → AH → Prop) : Prop :=
  LCalls Try.prog 68 [(Sl.val x0)] H fun e H' => in1 .sl e noPan (fun r0 => k r0 H')

def model_Model_Read (x0 : Option Addr) (x1 : Int) (x2 : Int) (H : AH) (k : Sl → Int → AH → Prop) : Prop :=
  LCalls Try.prog 25 [(Value.pointer x0), (Value.int .i64 x1), (Value.int .i64 x2)] H fun e H' => in2 .sl (.int .i64) e noPan (fun r0 r1 => k r0 r1 H')

def model_Model_find_1 (x0 : List Value) (x1 : Option Addr) (H : AH) (k : Bool → AH → Prop) : Prop :=
  LCalls Try.prog 93 [(Value.agg (List.toArray x0)), (Value.pointer x1)] H fun e H' => in1 .bool e noPan (fun r0 => k r0 H')

def model_Model_find (x0 : Option Addr) (x1 : Int) (H : AH) (k : Int → AH → Prop) : Prop :=
  LCalls Try.prog 64 [(Value.pointer x0), (Value.int .i64 x1)] H fun e H' => in1 (.int .i64) e noPan (fun r0 => k r0 H')

def model_Model_SetRoot (x0 : Option Addr) (x1 : Int) (H : AH) (k : Int → AH → Prop) : Prop :=
  LCalls Try.prog 19 [(Value.pointer x0), (Value.int .i64 x1)] H fun e H' => in1 (.int .i64) e noPan (fun r0 => k r0 H')

def model_Model_Root (x0 : Option Addr) (H : AH) (k : Int → AH → Prop) : Prop :=
  LCalls Try.prog 20 [(Value.pointer x0)] H fun e H' => in1 (.int .i64) e noPan (fun r0 => k r0 H')

def model_Model_Free (x0 : Option Addr) (x1 : Int) (H : AH) (k : Int → AH → Prop) : Prop :=
  LCalls Try.prog 21 [(Value.pointer x0), (Value.int .i64 x1)] H fun e H' => in1 (.int .i64) e noPan (fun r0 => k r0 H')

def darninglaw20_awake  (H : AH) (k : Bool → AH → Prop) : Prop :=
  LCalls Try.prog 16 [] H fun e H' => in1 .bool e noPan (fun r0 => k r0 H')

def darninglaw20_ModelRoots (x0 : Int) (x1 : Int) (x2 : Int) (H : AH) (k : Bool → AH → Prop) : Prop :=
  LCalls Try.prog 3 [(Value.int .i64 x0), (Value.int .i64 x1), (Value.int .i64 x2)] H fun e H' => in1 .bool e noPan (fun r0 => k r0 H')

def darningref4_Need (x0 : Int) (H : AH) (k : Int → AH → Prop) : Prop :=
  LCalls Try.prog 23 [(Value.int .i64 x0)] H fun e H' => in1 (.int .i64) e noPan (fun r0 => k r0 H')

def darninglaw20_ModelBytes (x0 : Int) (x1 : Int) (x2 : Sl) (H : AH) (k : Bool → AH → Prop) : Prop :=
  LCalls Try.prog 4 [(Value.int .i64 x0), (Value.int .i64 x1), (Sl.val x2)] H fun e H' => in1 .bool e noPan (fun r0 => k r0 H')

def darningref4_ParseWord (x0 : Int) (H : AH) (k : Int → Bool → Bool → AH → Prop) : Prop :=
  LCalls Try.prog 103 [(Value.int .u64 x0)] H fun e H' => in3 (.int .i64) .bool .bool e noPan (fun r0 r1 r2 => k r0 r1 r2 H')

def darningref4_MayBlocks (x0 : Sl) (x1 : Int) (H : AH) (k : Bool → AH → Prop) : Prop :=
  LCalls Try.prog 104 [(Sl.val x0), (Value.int .i64 x1)] H fun e H' => in1 .bool e noPan (fun r0 => k r0 H')

def darningref4_Blocks (x0 : Sl) (H : AH) (k : Sl → Bool → AH → Prop) : Prop :=
  LCalls Try.prog 80 [(Sl.val x0)] H fun e H' => in2 .sl .bool e noPan (fun r0 r1 => k r0 r1 H')

def darningref4_Model_Blocks (x0 : Option Addr) (H : AH) (k : Sl → AH → Prop) : Prop :=
  LCalls Try.prog 39 [(Value.pointer x0)] H fun e H' => in1 .sl e noPan (fun r0 => k r0 H')

def darningref4_Fits (x0 : Sl) (x1 : Int) (H : AH) (k : Sl → AH → Prop) : Prop :=
  LCalls Try.prog 95 [(Sl.val x0), (Value.int .i64 x1)] H fun e H' => in1 .sl e noPan (fun r0 => k r0 H')

def darningref4_Off (x0 : List Value) (H : AH) (k : Int → AH → Prop) : Prop :=
  LCalls Try.prog 75 [(Value.agg (List.toArray x0))] H fun e H' => in1 (.int .i64) e noPan (fun r0 => k r0 H')

def darningref4_Model_Fits (x0 : Option Addr) (x1 : Int) (H : AH) (k : Sl → AH → Prop) : Prop :=
  LCalls Try.prog 69 [(Value.pointer x0), (Value.int .i64 x1)] H fun e H' => in1 .sl e noPan (fun r0 => k r0 H')

def darningref1_Ints (x0 : Sl) (x1 : Sl) (H : AH) (k : Bool → AH → Prop) : Prop :=
  LCalls Try.prog 51 [(Sl.val x0), (Sl.val x1)] H fun e H' => in1 .bool e noPan (fun r0 => k r0 H')

def darningref4_sizes (x0 : Sl) (H : AH) (k : Int → AH → Prop) : Prop :=
  LCalls Try.prog 126 [(Sl.val x0)] H fun e H' => in1 (.int .i64) e noPan (fun r0 => k r0 H')

def darningref4_Takes (x0 : Int) (x1 : Int) (H : AH) (k : Int → AH → Prop) : Prop :=
  LCalls Try.prog 111 [(Value.int .i64 x0), (Value.int .i64 x1)] H fun e H' => in1 (.int .i64) e noPan (fun r0 => k r0 H')

def darningref4_Carved (x0 : Sl) (x1 : Int) (x2 : Int) (H : AH) (k : Sl → Bool → AH → Prop) : Prop :=
  LCalls Try.prog 110 [(Sl.val x0), (Value.int .i64 x1), (Value.int .i64 x2)] H fun e H' => in2 .sl .bool e noPan (fun r0 r1 => k r0 r1 H')

def darningref4_CarveEdits (x0 : Sl) (x1 : Int) (x2 : Int) (H : AH) (k : Sl → AH → Prop) : Prop :=
  LCalls Try.prog 96 [(Sl.val x0), (Value.int .i64 x1), (Value.int .i64 x2)] H fun e H' => in1 .sl e noPan (fun r0 => k r0 H')

def darningref4_Apply (x0 : Sl) (x1 : Sl) (H : AH) (k : Sl → AH → Prop) : Prop :=
  LCalls Try.prog 50 [(Sl.val x0), (Sl.val x1)] H fun e H' => in1 .sl e noPan (fun r0 => k r0 H')

def darningref4_Model_Alloc (x0 : Option Addr) (x1 : Int) (x2 : Int) (H : AH) (k : Bool → AH → Prop) : Prop :=
  LCalls Try.prog 70 [(Value.pointer x0), (Value.int .i64 x1), (Value.int .i64 x2)] H fun e H' => in1 .bool e noPan (fun r0 => k r0 H')

def darningref4_Is (x0 : Sl) (x1 : Int) (H : AH) (k : Int → AH → Prop) : Prop :=
  LCalls Try.prog 99 [(Sl.val x0), (Value.int .i64 x1)] H fun e H' => in1 (.int .i64) e noPan (fun r0 => k r0 H')

def darningref4_Merged (x0 : Sl) (x1 : Int) (H : AH) (k : Sl → Int → Bool → AH → Prop) : Prop :=
  LCalls Try.prog 112 [(Sl.val x0), (Value.int .i64 x1)] H fun e H' => in3 .sl (.int .i64) .bool e noPan (fun r0 r1 r2 => k r0 r1 r2 H')

def darningref4_ImageFree (x0 : Sl) (x1 : Int) (H : AH) (k : Sl → Int → AH → Prop) : Prop :=
  LCalls Try.prog 97 [(Sl.val x0), (Value.int .i64 x1)] H fun e H' => in2 .sl (.int .i64) e noPan (fun r0 r1 => k r0 r1 H')

def darningref4_Model_Free (x0 : Option Addr) (x1 : Int) (H : AH) (k : Int → AH → Prop) : Prop :=
  LCalls Try.prog 71 [(Value.pointer x0), (Value.int .i64 x1)] H fun e H' => in1 (.int .i64) e noPan (fun r0 => k r0 H')

def darningref4_Within (x0 : Sl) (x1 : Int) (x2 : Int) (H : AH) (k : Bool → AH → Prop) : Prop :=
  LCalls Try.prog 113 [(Sl.val x0), (Value.int .i64 x1), (Value.int .i64 x2)] H fun e H' => in1 .bool e noPan (fun r0 => k r0 H')

def darningref4_inside (x0 : Int) (x1 : Int) (x2 : Int) (H : AH) (k : Bool → AH → Prop) : Prop :=
  LCalls Try.prog 82 [(Value.int .i64 x0), (Value.int .i64 x1), (Value.int .i64 x2)] H fun e H' => in1 .bool e noPan (fun r0 => k r0 H')

def darningref4_ByteEdits (x0 : Sl) (x1 : Int) (x2 : Sl) (H : AH) (k : Sl → Bool → AH → Prop) : Prop :=
  LCalls Try.prog 46 [(Sl.val x0), (Value.int .i64 x1), (Sl.val x2)] H fun e H' => in2 .sl .bool e noPan (fun r0 r1 => k r0 r1 H')

def darningref4_ImageWrite (x0 : Sl) (x1 : Int) (x2 : Sl) (H : AH) (k : Sl → Int → AH → Prop) : Prop :=
  LCalls Try.prog 98 [(Sl.val x0), (Value.int .i64 x1), (Sl.val x2)] H fun e H' => in2 .sl (.int .i64) e noPan (fun r0 r1 => k r0 r1 H')

def darningref4_Model_Write (x0 : Option Addr) (x1 : Int) (x2 : Sl) (H : AH) (k : Int → AH → Prop) : Prop :=
  LCalls Try.prog 72 [(Value.pointer x0), (Value.int .i64 x1), (Sl.val x2)] H fun e H' => in1 (.int .i64) e noPan (fun r0 => k r0 H')

def darningref4_Model_SetRoot (x0 : Option Addr) (x1 : Int) (H : AH) (k : Int → AH → Prop) : Prop :=
  LCalls Try.prog 73 [(Value.pointer x0), (Value.int .i64 x1)] H fun e H' => in1 (.int .i64) e noPan (fun r0 => k r0 H')

def darningref4_ReadBytes (x0 : Sl) (x1 : Int) (x2 : Int) (H : AH) (k : Sl → Bool → AH → Prop) : Prop :=
  LCalls Try.prog 44 [(Sl.val x0), (Value.int .i64 x1), (Value.int .i64 x2)] H fun e H' => in2 .sl .bool e noPan (fun r0 r1 => k r0 r1 H')

def darningref4_ImageRead (x0 : Sl) (x1 : Int) (x2 : Int) (H : AH) (k : Sl → Int → AH → Prop) : Prop :=
  LCalls Try.prog 100 [(Sl.val x0), (Value.int .i64 x1), (Value.int .i64 x2)] H fun e H' => in2 .sl (.int .i64) e noPan (fun r0 r1 => k r0 r1 H')

def darningref4_Model_Read (x0 : Option Addr) (x1 : Int) (x2 : Int) (H : AH) (k : Sl → Int → AH → Prop) : Prop :=
  LCalls Try.prog 74 [(Value.pointer x0), (Value.int .i64 x1), (Value.int .i64 x2)] H fun e H' => in2 .sl (.int .i64) e noPan (fun r0 r1 => k r0 r1 H')

def darningref4_SameBlocks (x0 : Sl) (x1 : Sl) (H : AH) (k : Bool → AH → Prop) : Prop :=
  LCalls Try.prog 37 [(Sl.val x0), (Sl.val x1)] H fun e H' => in1 .bool e noPan (fun r0 => k r0 H')

def darninglaw20_same (x0 : Option Addr) (x1 : Option Addr) (H : AH) (k : Bool → AH → Prop) : Prop :=
  LCalls Try.prog 29 [(Value.pointer x0), (Value.pointer x1)] H fun e H' => in1 .bool e noPan (fun r0 => k r0 H')

def darninglaw20_plays (x0 : Option Addr) (x1 : Option Addr) (x2 : Sl) (H : AH) (k : Bool → AH → Prop) : Prop :=
  LCalls Try.prog 26 [(Value.pointer x0), (Value.pointer x1), (Sl.val x2)] H fun e H' => in1 .bool e noPan (fun r0 => k r0 H')

def darningref4_Model_Clone (x0 : Option Addr) (H : AH) (k : Option Addr → AH → Prop) : Prop :=
  LCalls Try.prog 27 [(Value.pointer x0)] H fun e H' => in1 .ptr e noPan (fun r0 => k r0 H')

def model_Model_Copy (x0 : Option Addr) (H : AH) (k : Option Addr → AH → Prop) : Prop :=
  LCalls Try.prog 28 [(Value.pointer x0)] H fun e H' => in1 .ptr e noPan (fun r0 => k r0 H')

def darninglaw20_ModelPlays (x0 : Int) (x1 : Sl) (x2 : Sl) (H : AH) (k : Bool → AH → Prop) : Prop :=
  LCalls Try.prog 5 [(Value.int .i64 x0), (Sl.val x1), (Sl.val x2)] H fun e H' => in1 .bool e noPan (fun r0 => k r0 H')

def darninglaw19_Heavy (x0 : Sl) (H : AH) (k : Int → AH → Prop) : Prop :=
  LCalls Try.prog 30 [(Sl.val x0)] H fun e H' => in1 (.int .i64) e noPan (fun r0 => k r0 H')

def darninglaw20_ModelNil (x0 : List Value) (H : AH) (k : Bool → AH → Prop) : Prop :=
  LCalls Try.prog 6 [(Value.agg (List.toArray x0))] H fun e H' => in1 .bool e noPan (fun r0 => k r0 H')

def darninglaw20_ModelFits (x0 : Int) (x1 : Sl) (x2 : Int) (x3 : Int) (x4 : Int) (H : AH) (k : Bool → AH → Prop) : Prop :=
  LCalls Try.prog 7 [(Value.int .i64 x0), (Sl.val x1), (Value.int .i64 x2), (Value.int .i64 x3), (Value.int .i64 x4)] H fun e H' => in1 .bool e noPan (fun r0 => k r0 H')

def judge_New (x0 : Int) (H : AH) (k : Option Addr → AH → Prop) : Prop :=
  LCalls Try.prog 32 [(Value.int .i64 x0)] H fun e H' => in1 .ptr e noPan (fun r0 => k r0 H')

def bytes_Equal (x0 : Sl) (x1 : Sl) (H : AH) (k : Bool → AH → Prop) : Prop :=
  LCalls Try.prog 102 [(Sl.val x0), (Sl.val x1)] H fun e H' => in1 .bool e noPan (fun r0 => k r0 H')

def judge_same (x0 : List Value) (x1 : List Value) (H : AH) (k : Bool → AH → Prop) : Prop :=
  LCalls Try.prog 78 [(Value.agg (List.toArray x0)), (Value.agg (List.toArray x1))] H fun e H' => in1 .bool e noPan (fun r0 => k r0 H')

def judge_Judge_alloc (x0 : Option Addr) (x1 : List Value) (x2 : List Value) (H : AH) (k : Bool → AH → Prop) : Prop :=
  LCalls Try.prog 76 [(Value.pointer x0), (Value.agg (List.toArray x1)), (Value.agg (List.toArray x2))] H fun e H' => in1 .bool e noPan (fun r0 => k r0 H')

def judge_does (x0 : Option Addr) (x1 : List Value) (H : AH) (k : Int → AH → Prop) : Prop :=
  LCalls Try.prog 101 [(Value.pointer x0), (Value.agg (List.toArray x1))] H fun e H' => in1 (.int .i64) e noPan (fun r0 => k r0 H')

def judge_Judge_change (x0 : Option Addr) (x1 : List Value) (x2 : List Value) (H : AH) (k : Bool → AH → Prop) : Prop :=
  LCalls Try.prog 77 [(Value.pointer x0), (Value.agg (List.toArray x1)), (Value.agg (List.toArray x2))] H fun e H' => in1 .bool e noPan (fun r0 => k r0 H')

def judge_Judge_See (x0 : Option Addr) (x1 : List Value) (x2 : List Value) (H : AH) (k : Bool → AH → Prop) : Prop :=
  LCalls Try.prog 33 [(Value.pointer x0), (Value.agg (List.toArray x1)), (Value.agg (List.toArray x2))] H fun e H' => in1 .bool e noPan (fun r0 => k r0 H')

def judge_Judge_Blocks (x0 : Option Addr) (H : AH) (k : Sl → AH → Prop) : Prop :=
  LCalls Try.prog 38 [(Value.pointer x0)] H fun e H' => in1 .sl e noPan (fun r0 => k r0 H')

def judge_Judge_Worn (x0 : Option Addr) (H : AH) (k : Bool → AH → Prop) : Prop :=
  LCalls Try.prog 35 [(Value.pointer x0)] H fun e H' => in1 .bool e noPan (fun r0 => k r0 H')

def judge_Judge_Root (x0 : Option Addr) (H : AH) (k : Int → AH → Prop) : Prop :=
  LCalls Try.prog 36 [(Value.pointer x0)] H fun e H' => in1 (.int .i64) e noPan (fun r0 => k r0 H')

def darninglaw25_awake  (H : AH) (k : Bool → AH → Prop) : Prop :=
  LCalls Try.prog 31 [] H fun e H' => in1 .bool e noPan (fun r0 => k r0 H')

def darningref4_SameAns (x0 : List Value) (x1 : List Value) (H : AH) (k : Bool → AH → Prop) : Prop :=
  LCalls Try.prog 79 [(Value.agg (List.toArray x0)), (Value.agg (List.toArray x1))] H fun e H' => in1 .bool e noPan (fun r0 => k r0 H')

def darningref4_Judge_See (x0 : Option Addr) (x1 : List Value) (x2 : List Value) (H : AH) (k : Bool → AH → Prop) : Prop :=
  LCalls Try.prog 34 [(Value.pointer x0), (Value.agg (List.toArray x1)), (Value.agg (List.toArray x2))] H fun e H' => in1 .bool e noPan (fun r0 => k r0 H')

def darninglaw25_JudgeSees (x0 : Int) (x1 : Sl) (H : AH) (k : Bool → AH → Prop) : Prop :=
  LCalls Try.prog 8 [(Value.int .i64 x0), (Sl.val x1)] H fun e H' => in1 .bool e noPan (fun r0 => k r0 H')

def darninglaw25_JudgeNil (x0 : List Value) (H : AH) (k : Bool → AH → Prop) : Prop :=
  LCalls Try.prog 9 [(Value.agg (List.toArray x0))] H fun e H' => in1 .bool e noPan (fun r0 => k r0 H')

def darninglaw25_JudgeLies (x0 : Int) (x1 : Int) (x2 : Int) (H : AH) (k : Bool → AH → Prop) : Prop :=
  LCalls Try.prog 10 [(Value.int .i64 x0), (Value.int .i64 x1), (Value.int .i64 x2)] H fun e H' => in1 .bool e noPan (fun r0 => k r0 H')

def darninglaw25_JudgeWorn (x0 : Int) (x1 : Int) (H : AH) (k : Bool → AH → Prop) : Prop :=
  LCalls Try.prog 11 [(Value.int .i64 x0), (Value.int .u8 x1)] H fun e H' => in1 .bool e noPan (fun r0 => k r0 H')

def span_Pieces (x0 : Int) (x1 : Int) (H : AH) (k : Sl → AH → Prop) : Prop :=
  LCalls Try.prog 41 [(Value.int .i64 x0), (Value.int .i64 x1)] H fun e H' => in1 .sl e noPan (fun r0 => k r0 H')

def span_within (x0 : Sl) (x1 : Int) (x2 : Int) (H : AH) (k : Bool → AH → Prop) : Prop :=
  LCalls Try.prog 81 [(Sl.val x0), (Value.int .i64 x1), (Value.int .i64 x2)] H fun e H' => in1 .bool e noPan (fun r0 => k r0 H')

def span_Read (x0 : Sl) (x1 : Int) (x2 : Int) (H : AH) (k : Sl → Bool → AH → Prop) : Prop :=
  LCalls Try.prog 43 [(Sl.val x0), (Value.int .i64 x1), (Value.int .i64 x2)] H fun e H' => in2 .sl .bool e noPan (fun r0 r1 => k r0 r1 H')

def span_Edits (x0 : Sl) (x1 : Int) (x2 : Sl) (H : AH) (k : Sl → Bool → AH → Prop) : Prop :=
  LCalls Try.prog 45 [(Sl.val x0), (Value.int .i64 x1), (Sl.val x2)] H fun e H' => in2 .sl .bool e noPan (fun r0 r1 => k r0 r1 H')

def darninglaw18_awake  (H : AH) (k : Bool → AH → Prop) : Prop :=
  LCalls Try.prog 40 [] H fun e H' => in1 .bool e noPan (fun r0 => k r0 H')

def darningref4_Pieces (x0 : Int) (x1 : Int) (H : AH) (k : Sl → AH → Prop) : Prop :=
  LCalls Try.prog 42 [(Value.int .i64 x0), (Value.int .i64 x1)] H fun e H' => in1 .sl e noPan (fun r0 => k r0 H')

def darningref4_SameEdits (x0 : Sl) (x1 : Sl) (H : AH) (k : Bool → AH → Prop) : Prop :=
  LCalls Try.prog 47 [(Sl.val x0), (Sl.val x1)] H fun e H' => in1 .bool e noPan (fun r0 => k r0 H')

def slices_Clone_uint64uint64 (x0 : Sl) (H : AH) (k : Sl → AH → Prop) : Prop :=
  LCalls Try.prog 83 [(Sl.val x0)] H fun e H' => in1 .sl e noPan (fun r0 => k r0 H')

def span_Apply (x0 : Sl) (x1 : Sl) (H : AH) (k : Sl → AH → Prop) : Prop :=
  LCalls Try.prog 49 [(Sl.val x0), (Sl.val x1)] H fun e H' => in1 .sl e noPan (fun r0 => k r0 H')

def darningref4_SameWords (x0 : Sl) (x1 : Sl) (H : AH) (k : Bool → AH → Prop) : Prop :=
  LCalls Try.prog 48 [(Sl.val x0), (Sl.val x1)] H fun e H' => in1 .bool e noPan (fun r0 => k r0 H')

def span_Lines (x0 : Sl) (H : AH) (k : Sl → AH → Prop) : Prop :=
  LCalls Try.prog 52 [(Sl.val x0)] H fun e H' => in1 .sl e noPan (fun r0 => k r0 H')

def darningref4_EditLines (x0 : Sl) (H : AH) (k : Sl → AH → Prop) : Prop :=
  LCalls Try.prog 53 [(Sl.val x0)] H fun e H' => in1 .sl e noPan (fun r0 => k r0 H')

def darninglaw18_SpanForms (x0 : Sl) (x1 : Int) (x2 : Int) (x3 : Sl) (x4 : Sl) (H : AH) (k : Bool → AH → Prop) : Prop :=
  LCalls Try.prog 12 [(Sl.val x0), (Value.int .i64 x1), (Value.int .i64 x2), (Sl.val x3), (Sl.val x4)] H fun e H' => in1 .bool e noPan (fun r0 => k r0 H')

def darninglaw18_SpanLines (x0 : Sl) (x1 : Sl) (H : AH) (k : Bool → AH → Prop) : Prop :=
  LCalls Try.prog 13 [(Sl.val x0), (Sl.val x1)] H fun e H' => in1 .bool e noPan (fun r0 => k r0 H')

def slices_IndexFunc_extent_at_model_Model_find_1.l1 (x0 : Sl) (x1b0 : Option Addr) (k : Int → AH → Prop) (t2 : Int × Int) (HL2 : AH) (it2 : (Int × Int) → AH → Prop) : Prop :=
  bcase (decide ((t2.2 : Int) < ((x0.n : Nat) : Int))) ((0 ≤ t2.2 ∧ t2.2 < ((x0.n : Nat) : Int)) ∧ onPtr x0.a fun a14 => ldA HL2 (Addr.add a14 (Int.toNat t2.2 * 3)) 3 fun c15 => model_Model_find_1 c15 x1b0 HL2 fun b16 H16 => bcase b16 (k t2.2 H16) (it2 (t2.1, (IntKind.wrap .i64 (t2.2 + (1 : Int)))) H16)) (k (-1 : Int) HL2)
def slices_IndexFunc_extent_at_model_Model_find_1.b (x0 : Sl) (x1b0 : Option Addr) (H : AH) (k : Int → AH → Prop) : Prop :=
  loopT (slices_IndexFunc_extent_at_model_Model_find_1.l1 x0 x1b0 k) (((0 : Int), (0 : Int)) : Int × Int) H
def slices_IndexFunc_extent_at_model_Model_find_1.ann : Ann := { keep := fun r => match r with | 2 => [(4, .int .i64), (8, .int .i64)] | _ => [], ord := fun r => match r with  | _ => [] }
theorem slices_IndexFunc_extent_at_model_Model_find_1.link {x0 : Sl} {x1b0 : Option Addr} {H : AH} {k : Int → AH → Prop} (h : slices_IndexFunc_extent_at_model_Model_find_1.b x0 x1b0 H k) : slices_IndexFunc_extent_at_model_Model_find_1 x0 x1b0 H k := by
  have e : wpC Try.prog T pan Try.f92.ntmps slices_IndexFunc_extent_at_model_Model_find_1.ann (Try.f92.body.getD .skip) (argFr [(Sl.val x0), (Value.func (.func 93) #[] #[(Value.pointer x1b0)])]) H (bodyK T Try.f92.results.toList fun e H' => out1 (.int .i64) e noPan (fun r0 => k r0 H')) = slices_IndexFunc_extent_at_model_Model_find_1.b x0 x1b0 H k := by kernel_rfl
  have h1 : LCalls Try.prog 92 [(Sl.val x0), (Value.func (.func 93) #[] #[(Value.pointer x1b0)])] H (fun e H' => out1 (.int .i64) e noPan (fun r0 => k r0 H')) := lcalls_of hT hm Try.func92 (by kernel_rfl) slices_IndexFunc_extent_at_model_Model_find_1.ann (Nat.le_of_ble_eq_true (by kernel_rfl)) (e.mpr h)
  exact h1.mono fun _ _ hq => out1_in (fun h => by cases h) hq

def chain_mayWords.b (x0 : Int) (H : AH) (k : Bool → AH → Prop) : Prop :=
  bcase (decide ((x0 : Int) ≥ (8 : Int))) (bcase (decide ((x0 : Int) ≤ (512 : Int))) (((8 : Int) : Int) ≠ 0 ∧ k (((Int.tmod x0 (8 : Int)) : Int) == (0 : Int)) H) (k false H)) (k false H)
def chain_mayWords.ann : Ann := { keep := fun r => match r with  | _ => [], ord := fun r => match r with  | _ => [] }
theorem chain_mayWords.link {x0 : Int} {H : AH} {k : Bool → AH → Prop} (h : chain_mayWords.b x0 H k) : chain_mayWords x0 H k := by
  have e : wpC Try.prog T pan Try.f86.ntmps chain_mayWords.ann (Try.f86.body.getD .skip) (argFr [(Value.int .i64 x0)]) H (bodyK T Try.f86.results.toList fun e H' => out1 .bool e noPan (fun r0 => k r0 H')) = chain_mayWords.b x0 H k := by kernel_rfl
  have h1 : LCalls Try.prog 86 [(Value.int .i64 x0)] H (fun e H' => out1 .bool e noPan (fun r0 => k r0 H')) := lcalls_of hT hm Try.func86 (by kernel_rfl) chain_mayWords.ann (Nat.le_of_ble_eq_true (by kernel_rfl)) (e.mpr h)
  exact h1.mono fun _ _ hq => out1_in (fun h => by cases h) hq

def block_May.b (x0 : Int) (H : AH) (k : Bool → AH → Prop) : Prop :=
  bcase (decide ((x0 : Int) ≥ (2 : Int))) (k (decide ((x0 : Int) ≤ (512 : Int))) H) (k false H)
def block_May.ann : Ann := { keep := fun r => match r with  | _ => [], ord := fun r => match r with  | _ => [] }
theorem block_May.link {x0 : Int} {H : AH} {k : Bool → AH → Prop} (h : block_May.b x0 H k) : block_May x0 H k := by
  have e : wpC Try.prog T pan Try.f107.ntmps block_May.ann (Try.f107.body.getD .skip) (argFr [(Value.int .i64 x0)]) H (bodyK T Try.f107.results.toList fun e H' => out1 .bool e noPan (fun r0 => k r0 H')) = block_May.b x0 H k := by kernel_rfl
  have h1 : LCalls Try.prog 107 [(Value.int .i64 x0)] H (fun e H' => out1 .bool e noPan (fun r0 => k r0 H')) := lcalls_of hT hm Try.func107 (by kernel_rfl) block_May.ann (Nat.le_of_ble_eq_true (by kernel_rfl)) (e.mpr h)
  exact h1.mono fun _ _ hq => out1_in (fun h => by cases h) hq

def block_Word.b (x0 : Int) (x1 : Bool) (H : AH) (k : Int → AH → Prop) : Prop :=
  block_May x0 H fun b7 H7 => bcase (!b7) (k (0 : Int) H7) ((0 : Int) ≤ (1 : Int) ∧ bcase x1 (k (orI .u64 (shlI .u64 (IntKind.wrap .u64 x0) (1 : Int)) (1 : Int)) H7) (k (shlI .u64 (IntKind.wrap .u64 x0) (1 : Int)) H7))
def block_Word.ann : Ann := { keep := fun r => match r with  | _ => [], ord := fun r => match r with  | _ => [] }
theorem block_Word.link {x0 : Int} {x1 : Bool} {H : AH} {k : Int → AH → Prop} (h : block_Word.b x0 x1 H k) : block_Word x0 x1 H k := by
  have e : wpC Try.prog T pan Try.f87.ntmps block_Word.ann (Try.f87.body.getD .skip) (argFr [(Value.int .i64 x0), (Value.bool x1)]) H (bodyK T Try.f87.results.toList fun e H' => out1 (.int .u64) e noPan (fun r0 => k r0 H')) = block_Word.b x0 x1 H k := by kernel_rfl
  have h1 : LCalls Try.prog 87 [(Value.int .i64 x0), (Value.bool x1)] H (fun e H' => out1 (.int .u64) e noPan (fun r0 => k r0 H')) := lcalls_of hT hm Try.func87 (by kernel_rfl) block_Word.ann (Nat.le_of_ble_eq_true (by kernel_rfl)) (e.mpr h)
  exact h1.mono fun _ _ hq => out1_in (fun h => by cases h) hq

def chain_First.b (x0 : Int) (H : AH) (k : Sl → AH → Prop) : Prop :=
  chain_mayWords x0 H fun b5 H5 => bcase (!b5) (k ⟨none, 0, 0⟩ H5) ((0 ≤ x0 ∧ x0 ≤ x0 ∧ x0 ≤ (lim : Int)) ∧ newC H5 ⟨zerosOf (Int.toNat x0) [(Value.int .u64 (0 : Int))], .rw, 1⟩ fun o8 H8 => block_Word x0 false H8 fun n11 H11 => (0 ≤ (0 : Int) ∧ (0 : Int) < (((Int.toNat x0) : Nat) : Int)) ∧ stC H11 (Addr.add ⟨o8, 0, none⟩ (Int.toNat (0 : Int) * 1)) [(Value.int .u64 n11)] fun Hs2 => k ⟨(some ⟨o8, 0, none⟩), (Int.toNat x0), 1⟩ Hs2)
def chain_First.ann : Ann := { keep := fun r => match r with  | _ => [], ord := fun r => match r with  | _ => [] }
theorem chain_First.link {x0 : Int} {H : AH} {k : Sl → AH → Prop} (h : chain_First.b x0 H k) : chain_First x0 H k := by
  have e : wpC Try.prog T pan Try.f54.ntmps chain_First.ann (Try.f54.body.getD .skip) (argFr [(Value.int .i64 x0)]) H (bodyK T Try.f54.results.toList fun e H' => out1 .sl e noPan (fun r0 => k r0 H')) = chain_First.b x0 H k := by kernel_rfl
  have h1 : LCalls Try.prog 54 [(Value.int .i64 x0)] H (fun e H' => out1 .sl e noPan (fun r0 => k r0 H')) := lcalls_of hT hm Try.func54 (by kernel_rfl) chain_First.ann (Nat.le_of_ble_eq_true (by kernel_rfl)) (e.mpr h)
  exact h1.mono fun _ _ hq => out1_in (fun h => by cases h) hq

def model_New.b (x0 : Int) (H : AH) (k : Option Addr → AH → Prop) : Prop :=
  chain_First x0 H fun s4 H4 => bcase (Option.isNone s4.a) (k none H4) (newC H4 ⟨[(Value.int .i64 x0), (Value.slice none 0 0), (Value.int .i64 (0 : Int))], .rw, 0⟩ fun o8 H8 => k (some ⟨o8, 0, none⟩) H8)
def model_New.ann : Ann := { keep := fun r => match r with  | _ => [], ord := fun r => match r with  | _ => [] }
theorem model_New.link {x0 : Int} {H : AH} {k : Option Addr → AH → Prop} (h : model_New.b x0 H k) : model_New x0 H k := by
  have e : wpC Try.prog T pan Try.f14.ntmps model_New.ann (Try.f14.body.getD .skip) (argFr [(Value.int .i64 x0)]) H (bodyK T Try.f14.results.toList fun e H' => out1 .ptr e noPan (fun r0 => k r0 H')) = model_New.b x0 H k := by kernel_rfl
  have h1 : LCalls Try.prog 14 [(Value.int .i64 x0)] H (fun e H' => out1 .ptr e noPan (fun r0 => k r0 H')) := lcalls_of hT hm Try.func14 (by kernel_rfl) model_New.ann (Nat.le_of_ble_eq_true (by kernel_rfl)) (e.mpr h)
  exact h1.mono fun _ _ hq => out1_in (fun h => by cases h) hq

def darningref4_mayWords.b (x0 : Int) (H : AH) (k : Bool → AH → Prop) : Prop :=
  bcase (decide ((x0 : Int) ≥ (8 : Int))) (bcase (decide ((x0 : Int) ≤ (512 : Int))) (((8 : Int) : Int) ≠ 0 ∧ k (((Int.tmod x0 (8 : Int)) : Int) == (0 : Int)) H) (k false H)) (k false H)
def darningref4_mayWords.ann : Ann := { keep := fun r => match r with  | _ => [], ord := fun r => match r with  | _ => [] }
theorem darningref4_mayWords.link {x0 : Int} {H : AH} {k : Bool → AH → Prop} (h : darningref4_mayWords.b x0 H k) : darningref4_mayWords x0 H k := by
  have e : wpC Try.prog T pan Try.f55.ntmps darningref4_mayWords.ann (Try.f55.body.getD .skip) (argFr [(Value.int .i64 x0)]) H (bodyK T Try.f55.results.toList fun e H' => out1 .bool e noPan (fun r0 => k r0 H')) = darningref4_mayWords.b x0 H k := by kernel_rfl
  have h1 : LCalls Try.prog 55 [(Value.int .i64 x0)] H (fun e H' => out1 .bool e noPan (fun r0 => k r0 H')) := lcalls_of hT hm Try.func55 (by kernel_rfl) darningref4_mayWords.ann (Nat.le_of_ble_eq_true (by kernel_rfl)) (e.mpr h)
  exact h1.mono fun _ _ hq => out1_in (fun h => by cases h) hq

def darningref4_MaySize.b (x0 : Int) (H : AH) (k : Bool → AH → Prop) : Prop :=
  bcase (decide ((x0 : Int) ≥ (2 : Int))) (k (decide ((x0 : Int) ≤ (512 : Int))) H) (k false H)
def darningref4_MaySize.ann : Ann := { keep := fun r => match r with  | _ => [], ord := fun r => match r with  | _ => [] }
theorem darningref4_MaySize.link {x0 : Int} {H : AH} {k : Bool → AH → Prop} (h : darningref4_MaySize.b x0 H k) : darningref4_MaySize x0 H k := by
  have e : wpC Try.prog T pan Try.f108.ntmps darningref4_MaySize.ann (Try.f108.body.getD .skip) (argFr [(Value.int .i64 x0)]) H (bodyK T Try.f108.results.toList fun e H' => out1 .bool e noPan (fun r0 => k r0 H')) = darningref4_MaySize.b x0 H k := by kernel_rfl
  have h1 : LCalls Try.prog 108 [(Value.int .i64 x0)] H (fun e H' => out1 .bool e noPan (fun r0 => k r0 H')) := lcalls_of hT hm Try.func108 (by kernel_rfl) darningref4_MaySize.ann (Nat.le_of_ble_eq_true (by kernel_rfl)) (e.mpr h)
  exact h1.mono fun _ _ hq => out1_in (fun h => by cases h) hq

def darningref4_Word.b (x0 : Int) (x1 : Bool) (H : AH) (k : Int → AH → Prop) : Prop :=
  darningref4_MaySize x0 H fun b7 H7 => bcase (!b7) (k (0 : Int) H7) ((0 : Int) ≤ (1 : Int) ∧ bcase x1 (k (orI .u64 (shlI .u64 (IntKind.wrap .u64 x0) (1 : Int)) (1 : Int)) H7) (k (shlI .u64 (IntKind.wrap .u64 x0) (1 : Int)) H7))
def darningref4_Word.ann : Ann := { keep := fun r => match r with  | _ => [], ord := fun r => match r with  | _ => [] }
theorem darningref4_Word.link {x0 : Int} {x1 : Bool} {H : AH} {k : Int → AH → Prop} (h : darningref4_Word.b x0 x1 H k) : darningref4_Word x0 x1 H k := by
  have e : wpC Try.prog T pan Try.f88.ntmps darningref4_Word.ann (Try.f88.body.getD .skip) (argFr [(Value.int .i64 x0), (Value.bool x1)]) H (bodyK T Try.f88.results.toList fun e H' => out1 (.int .u64) e noPan (fun r0 => k r0 H')) = darningref4_Word.b x0 x1 H k := by kernel_rfl
  have h1 : LCalls Try.prog 88 [(Value.int .i64 x0), (Value.bool x1)] H (fun e H' => out1 (.int .u64) e noPan (fun r0 => k r0 H')) := lcalls_of hT hm Try.func88 (by kernel_rfl) darningref4_Word.ann (Nat.le_of_ble_eq_true (by kernel_rfl)) (e.mpr h)
  exact h1.mono fun _ _ hq => out1_in (fun h => by cases h) hq

def darningref4_First.b (x0 : Int) (H : AH) (k : Sl → AH → Prop) : Prop :=
  darningref4_mayWords x0 H fun b5 H5 => bcase (!b5) (k ⟨none, 0, 0⟩ H5) ((0 ≤ x0 ∧ x0 ≤ x0 ∧ x0 ≤ (lim : Int)) ∧ newC H5 ⟨zerosOf (Int.toNat x0) [(Value.int .u64 (0 : Int))], .rw, 1⟩ fun o8 H8 => darningref4_Word x0 false H8 fun n11 H11 => (0 ≤ (0 : Int) ∧ (0 : Int) < (((Int.toNat x0) : Nat) : Int)) ∧ stC H11 (Addr.add ⟨o8, 0, none⟩ (Int.toNat (0 : Int) * 1)) [(Value.int .u64 n11)] fun Hs2 => k ⟨(some ⟨o8, 0, none⟩), (Int.toNat x0), 1⟩ Hs2)
def darningref4_First.ann : Ann := { keep := fun r => match r with  | _ => [], ord := fun r => match r with  | _ => [] }
theorem darningref4_First.link {x0 : Int} {H : AH} {k : Sl → AH → Prop} (h : darningref4_First.b x0 H k) : darningref4_First x0 H k := by
  have e : wpC Try.prog T pan Try.f56.ntmps darningref4_First.ann (Try.f56.body.getD .skip) (argFr [(Value.int .i64 x0)]) H (bodyK T Try.f56.results.toList fun e H' => out1 .sl e noPan (fun r0 => k r0 H')) = darningref4_First.b x0 H k := by kernel_rfl
  have h1 : LCalls Try.prog 56 [(Value.int .i64 x0)] H (fun e H' => out1 .sl e noPan (fun r0 => k r0 H')) := lcalls_of hT hm Try.func56 (by kernel_rfl) darningref4_First.ann (Nat.le_of_ble_eq_true (by kernel_rfl)) (e.mpr h)
  exact h1.mono fun _ _ hq => out1_in (fun h => by cases h) hq

def darningref4_NewModel.b (x0 : Int) (H : AH) (k : Option Addr → AH → Prop) : Prop :=
  darningref4_mayWords x0 H fun b4 H4 => bcase (!b4) (k none H4) (darningref4_First x0 H4 fun s7 H7 => newC H7 ⟨[(Sl.val s7), (Value.int .i64 (0 : Int))], .rw, 0⟩ fun o9 H9 => k (some ⟨o9, 0, none⟩) H9)
def darningref4_NewModel.ann : Ann := { keep := fun r => match r with  | _ => [], ord := fun r => match r with  | _ => [] }
theorem darningref4_NewModel.link {x0 : Int} {H : AH} {k : Option Addr → AH → Prop} (h : darningref4_NewModel.b x0 H k) : darningref4_NewModel x0 H k := by
  have e : wpC Try.prog T pan Try.f15.ntmps darningref4_NewModel.ann (Try.f15.body.getD .skip) (argFr [(Value.int .i64 x0)]) H (bodyK T Try.f15.results.toList fun e H' => out1 .ptr e noPan (fun r0 => k r0 H')) = darningref4_NewModel.b x0 H k := by kernel_rfl
  have h1 : LCalls Try.prog 15 [(Value.int .i64 x0)] H (fun e H' => out1 .ptr e noPan (fun r0 => k r0 H')) := lcalls_of hT hm Try.func15 (by kernel_rfl) darningref4_NewModel.ann (Nat.le_of_ble_eq_true (by kernel_rfl)) (e.mpr h)
  exact h1.mono fun _ _ hq => out1_in (fun h => by cases h) hq

def slices_Clone_extent.b (x0 : Sl) (H : AH) (k : Sl → AH → Prop) : Prop :=
  bcase (Option.isNone x0.a) (k ⟨none, 0, 0⟩ H) (newC H ⟨[], .rw, 3⟩ fun o5 H5 => appendC 3 H5 ⟨(some ⟨o5, 0, none⟩), 0, 1⟩ x0 fun s7 H7 => k s7 H7)
def slices_Clone_extent.ann : Ann := { keep := fun r => match r with  | _ => [], ord := fun r => match r with  | _ => [] }
theorem slices_Clone_extent.link {x0 : Sl} {H : AH} {k : Sl → AH → Prop} (h : slices_Clone_extent.b x0 H k) : slices_Clone_extent x0 H k := by
  have e : wpC Try.prog T pan Try.f66.ntmps slices_Clone_extent.ann (Try.f66.body.getD .skip) (argFr [(Sl.val x0)]) H (bodyK T Try.f66.results.toList fun e H' => out1 .sl e noPan (fun r0 => k r0 H')) = slices_Clone_extent.b x0 H k := by kernel_rfl
  have h1 : LCalls Try.prog 66 [(Sl.val x0)] H (fun e H' => out1 .sl e noPan (fun r0 => k r0 H')) := lcalls_of hT hm Try.func66 (by kernel_rfl) slices_Clone_extent.ann (Nat.le_of_ble_eq_true (by kernel_rfl)) (e.mpr h)
  exact h1.mono fun _ _ hq => out1_in (fun h => by cases h) hq

def model_Model_Blocks.j1 (t6 : Sl × Int × Int) (it6 : (Sl × Int × Int) → AH → Prop) (o6 : Nat) (x3 : Sl) (Hj : AH) : Prop :=
  elI .i64 (AH.cell? Hj (Addr.add ⟨o6, 0, none⟩ 0)) fun n51 => elI .i64 (AH.cell? Hj (Addr.add ⟨o6, 0, none⟩ 1)) fun n53 => it6 (x3, (IntKind.wrap .i64 (n51 + n53)), (IntKind.wrap .i64 (t6.2.2 + (1 : Int)))) Hj
def model_Model_Blocks.j2 (t6 : Sl × Int × Int) (it6 : (Sl × Int × Int) → AH → Prop) (o6 : Nat) (x3 : Sl) (Hj : AH) : Prop :=
  elI .i64 (AH.cell? Hj (Addr.add ⟨o6, 0, none⟩ 1)) fun n40 => bcase (decide ((n40 : Int) > (0 : Int))) (elI .i64 (AH.cell? Hj (Addr.add ⟨o6, 0, none⟩ 0)) fun n44 => elI .i64 (AH.cell? Hj (Addr.add ⟨o6, 0, none⟩ 1)) fun n46 => (List.length [(Value.int .i64 n44), (Value.int .i64 n46), (Value.bool true)] = 3) ∧ newC Hj ⟨[(Value.int .i64 n44), (Value.int .i64 n46), (Value.bool true)], .rw, 3⟩ fun o48 H48 => appendC 3 H48 x3 ⟨(some ⟨o48, 0, none⟩), 1, 1⟩ fun s49 H49 => model_Model_Blocks.j1 t6 it6 o6 s49 H49) (model_Model_Blocks.j1 t6 it6 o6 x3 Hj)
def model_Model_Blocks.l3 (k : Sl → AH → Prop) (s20 : Sl) (t6 : Sl × Int × Int) (HL6 : AH) (it6 : (Sl × Int × Int) → AH → Prop) : Prop :=
  bcase (decide ((t6.2.2 : Int) < ((s20.n : Nat) : Int))) ((0 ≤ t6.2.2 ∧ t6.2.2 < ((s20.n : Nat) : Int)) ∧ onPtr s20.a fun a24 => ldA HL6 (Addr.add a24 (Int.toNat t6.2.2 * 3)) 3 fun c25 => newC HL6 ⟨[(Value.int .i64 (0 : Int)), (Value.int .i64 (0 : Int)), (Value.slice none 0 0)], .rw, 0⟩ fun o6 H6 => (List.length c25 = 3 ∧ List.all c25 cellOK = true) ∧ stC H6 ⟨o6, 0, none⟩ c25 fun Hs2 => elI .i64 (AH.cell? Hs2 (Addr.add ⟨o6, 0, none⟩ 0)) fun n28 => bcase (decide ((t6.2.1 : Int) < n28)) (elI .i64 (AH.cell? Hs2 (Addr.add ⟨o6, 0, none⟩ 0)) fun n33 => (List.length [(Value.int .i64 t6.2.1), (Value.int .i64 (IntKind.wrap .i64 (n33 - t6.2.1))), (Value.bool false)] = 3) ∧ newC Hs2 ⟨[(Value.int .i64 t6.2.1), (Value.int .i64 (IntKind.wrap .i64 (n33 - t6.2.1))), (Value.bool false)], .rw, 3⟩ fun o37 H37 => appendC 3 H37 t6.1 ⟨(some ⟨o37, 0, none⟩), 1, 1⟩ fun s38 H38 => model_Model_Blocks.j2 t6 it6 o6 s38 H38) (model_Model_Blocks.j2 t6 it6 o6 t6.1 Hs2)) (k t6.1 HL6)
def model_Model_Blocks.b (x0 : Option Addr) (H : AH) (k : Sl → AH → Prop) : Prop :=
  bcase (Option.isNone x0) (k ⟨none, 0, 0⟩ H) (onPtr x0 fun a10 => elL (AH.cell? H (Addr.add a10 1)) fun s12 => onPtr x0 fun a15 => elI .i64 (AH.cell? H (Addr.add a15 0)) fun n17 => (List.length [(Value.int .i64 n17), (Value.int .i64 (0 : Int)), (Value.slice none 0 0)] = 3) ∧ newC H ⟨[(Value.int .i64 n17), (Value.int .i64 (0 : Int)), (Value.slice none 0 0)], .rw, 3⟩ fun o19 H19 => slices_Clone_extent s12 H19 fun s13 H13 => AH.cell? H13 (Addr.add a15 0) = some (Value.int .i64 n17) ∧ appendC 3 H13 s13 ⟨(some ⟨o19, 0, none⟩), 1, 1⟩ fun s20 H20 => loopT (model_Model_Blocks.l3 k s20) ((⟨none, 0, 0⟩, (0 : Int), (0 : Int)) : Sl × Int × Int) H20)
def model_Model_Blocks.ann : Ann := { keep := fun r => match r with | 6 => [(3, .sl), (4, .int .i64), (22, .int .i64)] | _ => [], ord := fun r => match r with | 5 => [0, 1, 2, 3, 5, 6, 7, 8, 9, 10, 13, 4, 11, 12] | _ => [] }
theorem model_Model_Blocks.link {x0 : Option Addr} {H : AH} {k : Sl → AH → Prop} (h : model_Model_Blocks.b x0 H k) : model_Model_Blocks x0 H k := by
  have e : wpC Try.prog T pan Try.f22.ntmps model_Model_Blocks.ann (Try.f22.body.getD .skip) (argFr [(Value.pointer x0)]) H (bodyK T Try.f22.results.toList fun e H' => out1 .sl e noPan (fun r0 => k r0 H')) = model_Model_Blocks.b x0 H k := by kernel_rfl
  have h1 : LCalls Try.prog 22 [(Value.pointer x0)] H (fun e H' => out1 .sl e noPan (fun r0 => k r0 H')) := lcalls_of hT hm Try.func22 (by kernel_rfl) model_Model_Blocks.ann (Nat.le_of_ble_eq_true (by kernel_rfl)) (e.mpr h)
  exact h1.mono fun _ _ hq => out1_in (fun h => by cases h) hq

def fit_Need.j1 (x0 : Int) (H : AH) (k : Int → AH → Prop) (x8 : Bool) : Prop :=
  bcase x8 (k (0 : Int) H) (((8 : Int) : Int) ≠ 0 ∧ k (IntKind.wrap .i64 ((IntKind.wrap .i64 (Int.tdiv (IntKind.wrap .i64 (x0 + (7 : Int))) (8 : Int))) + (1 : Int))) H)
def fit_Need.b (x0 : Int) (H : AH) (k : Int → AH → Prop) : Prop :=
  bcase (decide ((x0 : Int) < (1 : Int))) (fit_Need.j1 x0 H k true) (fit_Need.j1 x0 H k (decide ((x0 : Int) > (448 : Int))))
def fit_Need.ann : Ann := { keep := fun r => match r with  | _ => [], ord := fun r => match r with  | _ => [] }
theorem fit_Need.link {x0 : Int} {H : AH} {k : Int → AH → Prop} (h : fit_Need.b x0 H k) : fit_Need x0 H k := by
  have e : wpC Try.prog T pan Try.f58.ntmps fit_Need.ann (Try.f58.body.getD .skip) (argFr [(Value.int .i64 x0)]) H (bodyK T Try.f58.results.toList fun e H' => out1 (.int .i64) e noPan (fun r0 => k r0 H')) = fit_Need.b x0 H k := by kernel_rfl
  have h1 : LCalls Try.prog 58 [(Value.int .i64 x0)] H (fun e H' => out1 (.int .i64) e noPan (fun r0 => k r0 H')) := lcalls_of hT hm Try.func58 (by kernel_rfl) fit_Need.ann (Nat.le_of_ble_eq_true (by kernel_rfl)) (e.mpr h)
  exact h1.mono fun _ _ hq => out1_in (fun h => by cases h) hq

def fit_Fits.j1 (t3 : Sl × Int) (it3 : (Sl × Int) → AH → Prop) (Hs2 : AH) (x5 : Sl) (x56 : Bool) : Prop :=
  bcase x56 (newC Hs2 ⟨[(Value.int .i64 t3.2)], .rw, 1⟩ fun o59 H59 => appendC 1 H59 x5 ⟨(some ⟨o59, 0, none⟩), 1, 1⟩ fun s60 H60 => it3 (s60, (IntKind.wrap .i64 (t3.2 + (1 : Int)))) H60) (it3 (x5, (IntKind.wrap .i64 (t3.2 + (1 : Int)))) Hs2)
def fit_Fits.j2 (x0 : Sl) (t3 : Sl × Int) (it3 : (Sl × Int) → AH → Prop) (o7 : Nat) (Hs2 : AH) (x5 : Sl) : Prop :=
  bcase ((((x5.n : Nat) : Int) : Int) == (0 : Int)) (fit_Fits.j1 t3 it3 Hs2 x5 true) (elI .i64 (AH.cell? Hs2 (Addr.add ⟨o7, 0, none⟩ 1)) fun n47 => (0 ≤ (0 : Int) ∧ (0 : Int) < ((x5.n : Nat) : Int)) ∧ onPtr x5.a fun a50 => elI .i64 (AH.cell? Hs2 (Addr.add a50 (Int.toNat (0 : Int) * 1))) fun n51 => (0 ≤ n51 ∧ n51 < ((x0.n : Nat) : Int)) ∧ onPtr x0.a fun a52 => elI .i64 (AH.cell? Hs2 (Addr.add (Addr.add a52 (Int.toNat n51 * 3)) 1)) fun n54 => fit_Fits.j1 t3 it3 Hs2 x5 ((n47 : Int) == n54))
def fit_Fits.j3 (x0 : Sl) (t3 : Sl × Int) (it3 : (Sl × Int) → AH → Prop) (o7 : Nat) (Hs2 : AH) (x41 : Bool) : Prop :=
  bcase x41 (fit_Fits.j2 x0 t3 it3 o7 Hs2 ⟨none, 0, 0⟩) (fit_Fits.j2 x0 t3 it3 o7 Hs2 t3.1)
def fit_Fits.j4 (x0 : Sl) (t3 : Sl × Int) (it3 : (Sl × Int) → AH → Prop) (o7 : Nat) (Hs2 : AH) (x26 : Bool) : Prop :=
  bcase x26 (it3 (t3.1, (IntKind.wrap .i64 (t3.2 + (1 : Int)))) Hs2) (bcase (decide ((((t3.1.n : Nat) : Int) : Int) > (0 : Int))) (elI .i64 (AH.cell? Hs2 (Addr.add ⟨o7, 0, none⟩ 1)) fun n32 => (0 ≤ (0 : Int) ∧ (0 : Int) < ((t3.1.n : Nat) : Int)) ∧ onPtr t3.1.a fun a35 => elI .i64 (AH.cell? Hs2 (Addr.add a35 (Int.toNat (0 : Int) * 1))) fun n36 => (0 ≤ n36 ∧ n36 < ((x0.n : Nat) : Int)) ∧ onPtr x0.a fun a37 => elI .i64 (AH.cell? Hs2 (Addr.add (Addr.add a37 (Int.toNat n36 * 3)) 1)) fun n39 => fit_Fits.j3 x0 t3 it3 o7 Hs2 (decide ((n32 : Int) < n39))) (fit_Fits.j3 x0 t3 it3 o7 Hs2 false))
def fit_Fits.l5 (x0 : Sl) (x1 : Int) (k : Sl → AH → Prop) (t3 : Sl × Int) (HL3 : AH) (it3 : (Sl × Int) → AH → Prop) : Prop :=
  bcase (decide ((t3.2 : Int) < ((x0.n : Nat) : Int))) ((0 ≤ t3.2 ∧ t3.2 < ((x0.n : Nat) : Int)) ∧ onPtr x0.a fun a13 => ldA HL3 (Addr.add a13 (Int.toNat t3.2 * 3)) 3 fun c14 => newC HL3 ⟨[(Value.int .i64 (0 : Int)), (Value.int .i64 (0 : Int)), (Value.bool false)], .rw, 0⟩ fun o7 H7 => (List.length c14 = 3 ∧ List.all c14 cellOK = true) ∧ stC H7 ⟨o7, 0, none⟩ c14 fun Hs2 => bcase (decide ((x1 : Int) < (2 : Int))) (fit_Fits.j4 x0 t3 it3 o7 Hs2 true) (elB (AH.cell? Hs2 (Addr.add ⟨o7, 0, none⟩ 2)) fun b19 => bcase b19 (fit_Fits.j4 x0 t3 it3 o7 Hs2 true) (elI .i64 (AH.cell? Hs2 (Addr.add ⟨o7, 0, none⟩ 1)) fun n23 => fit_Fits.j4 x0 t3 it3 o7 Hs2 (decide ((n23 : Int) < x1))))) (k t3.1 HL3)
def fit_Fits.b (x0 : Sl) (x1 : Int) (H : AH) (k : Sl → AH → Prop) : Prop :=
  loopT (fit_Fits.l5 x0 x1 k) ((⟨none, 0, 0⟩, (0 : Int)) : Sl × Int) H
def fit_Fits.ann : Ann := { keep := fun r => match r with | 3 => [(5, .sl), (10, .int .i64)] | _ => [], ord := fun r => match r with | 6 => [0, 1, 2, 3, 4, 5, 6, 7, 8, 9, 10, 11, 12, 13, 14] | 8 => [0, 1, 2, 3, 4, 5, 6, 7, 8, 9, 10, 11, 12, 13, 14] | _ => [] }
theorem fit_Fits.link {x0 : Sl} {x1 : Int} {H : AH} {k : Sl → AH → Prop} (h : fit_Fits.b x0 x1 H k) : fit_Fits x0 x1 H k := by
  have e : wpC Try.prog T pan Try.f57.ntmps fit_Fits.ann (Try.f57.body.getD .skip) (argFr [(Sl.val x0), (Value.int .i64 x1)]) H (bodyK T Try.f57.results.toList fun e H' => out1 .sl e noPan (fun r0 => k r0 H')) = fit_Fits.b x0 x1 H k := by kernel_rfl
  have h1 : LCalls Try.prog 57 [(Sl.val x0), (Value.int .i64 x1)] H (fun e H' => out1 .sl e noPan (fun r0 => k r0 H')) := lcalls_of hT hm Try.func57 (by kernel_rfl) fit_Fits.ann (Nat.le_of_ble_eq_true (by kernel_rfl)) (e.mpr h)
  exact h1.mono fun _ _ hq => out1_in (fun h => by cases h) hq

def carve_Off.j1 (k : Int → AH → Prop) (o1 : Nat) (H1 : AH) (x10 : Bool) : Prop :=
  bcase x10 (k (0 : Int) H1) (elI .i64 (AH.cell? H1 (Addr.add ⟨o1, 0, none⟩ 0)) fun n12 => k (IntKind.wrap .i64 ((IntKind.wrap .i64 (n12 + (1 : Int))) * (8 : Int))) H1)
def carve_Off.b (x0 : List Value) (H : AH) (k : Int → AH → Prop) : Prop :=
  newC H ⟨x0, .rw, 0⟩ fun o1 H1 => elI .i64 (AH.cell? H1 (Addr.add ⟨o1, 0, none⟩ 0)) fun n4 => bcase (decide ((n4 : Int) < (0 : Int))) (carve_Off.j1 k o1 H1 true) (elI .i64 (AH.cell? H1 (Addr.add ⟨o1, 0, none⟩ 0)) fun n8 => carve_Off.j1 k o1 H1 (decide ((n8 : Int) > (512 : Int))))
def carve_Off.ann : Ann := { keep := fun r => match r with  | _ => [], ord := fun r => match r with  | _ => [] }
theorem carve_Off.link {x0 : List Value} {H : AH} {k : Int → AH → Prop} (h : carve_Off.b x0 H k) : carve_Off x0 H k := by
  have e : wpC Try.prog T pan Try.f59.ntmps carve_Off.ann (Try.f59.body.getD .skip) (argFr [(Value.agg (List.toArray x0))]) H (bodyK T Try.f59.results.toList fun e H' => out1 (.int .i64) e noPan (fun r0 => k r0 H')) = carve_Off.b x0 H k := by kernel_rfl
  have h1 : LCalls Try.prog 59 [(Value.agg (List.toArray x0))] H (fun e H' => out1 (.int .i64) e noPan (fun r0 => k r0 H')) := lcalls_of hT hm Try.func59 (by kernel_rfl) carve_Off.ann (Nat.le_of_ble_eq_true (by kernel_rfl)) (e.mpr h)
  exact h1.mono fun _ _ hq => out1_in (fun h => by cases h) hq

def model_Model_Fits.l1 (k : Sl → AH → Prop) (s10 : Sl) (s14 : Sl) (t4 : Sl × Int) (HL4 : AH) (it4 : (Sl × Int) → AH → Prop) : Prop :=
  bcase (decide ((t4.2 : Int) < ((s14.n : Nat) : Int))) ((0 ≤ t4.2 ∧ t4.2 < ((s14.n : Nat) : Int)) ∧ onPtr s14.a fun a18 => elI .i64 (AH.cell? HL4 (Addr.add a18 (Int.toNat t4.2 * 1))) fun n19 => (0 ≤ n19 ∧ n19 < ((s10.n : Nat) : Int)) ∧ onPtr s10.a fun a23 => ldA HL4 (Addr.add a23 (Int.toNat n19 * 3)) 3 fun c24 => carve_Off c24 HL4 fun n25 H25 => newC H25 ⟨[(Value.int .i64 n25)], .rw, 1⟩ fun o26 H26 => appendC 1 H26 t4.1 ⟨(some ⟨o26, 0, none⟩), 1, 1⟩ fun s27 H27 => it4 (s27, (IntKind.wrap .i64 (t4.2 + (1 : Int)))) H27) (k t4.1 HL4)
def model_Model_Fits.b (x0 : Option Addr) (x1 : Int) (H : AH) (k : Sl → AH → Prop) : Prop :=
  model_Model_Blocks x0 H fun s10 H10 => fit_Need x1 H10 fun n13 H13 => fit_Fits s10 n13 H13 fun s14 H14 => loopT (model_Model_Fits.l1 k s10 s14) ((⟨none, 0, 0⟩, (0 : Int)) : Sl × Int) H14
def model_Model_Fits.ann : Ann := { keep := fun r => match r with | 4 => [(5, .sl), (16, .int .i64)] | _ => [], ord := fun r => match r with  | _ => [] }
theorem model_Model_Fits.link {x0 : Option Addr} {x1 : Int} {H : AH} {k : Sl → AH → Prop} (h : model_Model_Fits.b x0 x1 H k) : model_Model_Fits x0 x1 H k := by
  have e : wpC Try.prog T pan Try.f17.ntmps model_Model_Fits.ann (Try.f17.body.getD .skip) (argFr [(Value.pointer x0), (Value.int .i64 x1)]) H (bodyK T Try.f17.results.toList fun e H' => out1 .sl e noPan (fun r0 => k r0 H')) = model_Model_Fits.b x0 x1 H k := by kernel_rfl
  have h1 : LCalls Try.prog 17 [(Value.pointer x0), (Value.int .i64 x1)] H (fun e H' => out1 .sl e noPan (fun r0 => k r0 H')) := lcalls_of hT hm Try.func17 (by kernel_rfl) model_Model_Fits.ann (Nat.le_of_ble_eq_true (by kernel_rfl)) (e.mpr h)
  exact h1.mono fun _ _ hq => out1_in (fun h => by cases h) hq

def slices_Index_intint.l1 (x0 : Sl) (x1 : Int) (k : Int → AH → Prop) (t2 : Int × Int) (HL2 : AH) (it2 : (Int × Int) → AH → Prop) : Prop :=
  bcase (decide ((t2.2 : Int) < ((x0.n : Nat) : Int))) ((0 ≤ t2.2 ∧ t2.2 < ((x0.n : Nat) : Int)) ∧ onPtr x0.a fun a14 => elI .i64 (AH.cell? HL2 (Addr.add a14 (Int.toNat t2.2 * 1))) fun n15 => bcase ((x1 : Int) == n15) (k t2.2 HL2) (it2 (t2.1, (IntKind.wrap .i64 (t2.2 + (1 : Int)))) HL2)) (k (-1 : Int) HL2)
def slices_Index_intint.b (x0 : Sl) (x1 : Int) (H : AH) (k : Int → AH → Prop) : Prop :=
  loopT (slices_Index_intint.l1 x0 x1 k) (((0 : Int), (0 : Int)) : Int × Int) H
def slices_Index_intint.ann : Ann := { keep := fun r => match r with | 2 => [(4, .int .i64), (8, .int .i64)] | _ => [], ord := fun r => match r with  | _ => [] }
theorem slices_Index_intint.link {x0 : Sl} {x1 : Int} {H : AH} {k : Int → AH → Prop} (h : slices_Index_intint.b x0 x1 H k) : slices_Index_intint x0 x1 H k := by
  have e : wpC Try.prog T pan Try.f89.ntmps slices_Index_intint.ann (Try.f89.body.getD .skip) (argFr [(Sl.val x0), (Value.int .i64 x1)]) H (bodyK T Try.f89.results.toList fun e H' => out1 (.int .i64) e noPan (fun r0 => k r0 H')) = slices_Index_intint.b x0 x1 H k := by kernel_rfl
  have h1 : LCalls Try.prog 89 [(Sl.val x0), (Value.int .i64 x1)] H (fun e H' => out1 (.int .i64) e noPan (fun r0 => k r0 H')) := lcalls_of hT hm Try.func89 (by kernel_rfl) slices_Index_intint.ann (Nat.le_of_ble_eq_true (by kernel_rfl)) (e.mpr h)
  exact h1.mono fun _ _ hq => out1_in (fun h => by cases h) hq

def slices_Contains_intint.b (x0 : Sl) (x1 : Int) (H : AH) (k : Bool → AH → Prop) : Prop :=
  slices_Index_intint x0 x1 H fun n7 H7 => k (decide ((n7 : Int) ≥ (0 : Int))) H7
def slices_Contains_intint.ann : Ann := { keep := fun r => match r with  | _ => [], ord := fun r => match r with  | _ => [] }
theorem slices_Contains_intint.link {x0 : Sl} {x1 : Int} {H : AH} {k : Bool → AH → Prop} (h : slices_Contains_intint.b x0 x1 H k) : slices_Contains_intint x0 x1 H k := by
  have e : wpC Try.prog T pan Try.f60.ntmps slices_Contains_intint.ann (Try.f60.body.getD .skip) (argFr [(Sl.val x0), (Value.int .i64 x1)]) H (bodyK T Try.f60.results.toList fun e H' => out1 .bool e noPan (fun r0 => k r0 H')) = slices_Contains_intint.b x0 x1 H k := by kernel_rfl
  have h1 : LCalls Try.prog 60 [(Sl.val x0), (Value.int .i64 x1)] H (fun e H' => out1 .bool e noPan (fun r0 => k r0 H')) := lcalls_of hT hm Try.func60 (by kernel_rfl) slices_Contains_intint.ann (Nat.le_of_ble_eq_true (by kernel_rfl)) (e.mpr h)
  exact h1.mono fun _ _ hq => out1_in (fun h => by cases h) hq

def chain_At.l1 (x0 : Sl) (x1 : Int) (k : Int → AH → Prop) (t2 : Int × Int) (HL2 : AH) (it2 : (Int × Int) → AH → Prop) : Prop :=
  bcase (decide ((t2.2 : Int) < ((x0.n : Nat) : Int))) ((0 ≤ t2.2 ∧ t2.2 < ((x0.n : Nat) : Int)) ∧ onPtr x0.a fun a12 => ldA HL2 (Addr.add a12 (Int.toNat t2.2 * 3)) 3 fun c13 => newC HL2 ⟨[(Value.int .i64 (0 : Int)), (Value.int .i64 (0 : Int)), (Value.bool false)], .rw, 0⟩ fun o6 H6 => (List.length c13 = 3 ∧ List.all c13 cellOK = true) ∧ stC H6 ⟨o6, 0, none⟩ c13 fun Hs2 => elI .i64 (AH.cell? Hs2 (Addr.add ⟨o6, 0, none⟩ 0)) fun n16 => bcase (decide ((x1 : Int) ≥ n16)) (elI .i64 (AH.cell? Hs2 (Addr.add ⟨o6, 0, none⟩ 1)) fun n20 => bcase (decide ((n20 : Int) > (0 : Int))) (elI .i64 (AH.cell? Hs2 (Addr.add ⟨o6, 0, none⟩ 0)) fun n27 => elI .i64 (AH.cell? Hs2 (Addr.add ⟨o6, 0, none⟩ 1)) fun n31 => bcase (decide (((IntKind.wrap .u64 ((IntKind.wrap .u64 x1) - (IntKind.wrap .u64 n27))) : Int) < (IntKind.wrap .u64 n31))) (k t2.2 Hs2) (it2 (t2.1, (IntKind.wrap .i64 (t2.2 + (1 : Int)))) Hs2)) (it2 (t2.1, (IntKind.wrap .i64 (t2.2 + (1 : Int)))) Hs2)) (it2 (t2.1, (IntKind.wrap .i64 (t2.2 + (1 : Int)))) Hs2)) (k (-1 : Int) HL2)
def chain_At.b (x0 : Sl) (x1 : Int) (H : AH) (k : Int → AH → Prop) : Prop :=
  loopT (chain_At.l1 x0 x1 k) (((0 : Int), (0 : Int)) : Int × Int) H
def chain_At.ann : Ann := { keep := fun r => match r with | 2 => [(4, .int .i64), (9, .int .i64)] | _ => [], ord := fun r => match r with  | _ => [] }
theorem chain_At.link {x0 : Sl} {x1 : Int} {H : AH} {k : Int → AH → Prop} (h : chain_At.b x0 x1 H k) : chain_At x0 x1 H k := by
  have e : wpC Try.prog T pan Try.f61.ntmps chain_At.ann (Try.f61.body.getD .skip) (argFr [(Sl.val x0), (Value.int .i64 x1)]) H (bodyK T Try.f61.results.toList fun e H' => out1 (.int .i64) e noPan (fun r0 => k r0 H')) = chain_At.b x0 x1 H k := by kernel_rfl
  have h1 : LCalls Try.prog 61 [(Sl.val x0), (Value.int .i64 x1)] H (fun e H' => out1 (.int .i64) e noPan (fun r0 => k r0 H')) := lcalls_of hT hm Try.func61 (by kernel_rfl) chain_At.ann (Nat.le_of_ble_eq_true (by kernel_rfl)) (e.mpr h)
  exact h1.mono fun _ _ hq => out1_in (fun h => by cases h) hq

def fit_Takes.j1 (x0 : Int) (x1 : Int) (H : AH) (k : Int → AH → Prop) (x5 : Bool) : Prop :=
  bcase x5 (k (0 : Int) H) (bcase (decide (((IntKind.wrap .i64 (x0 - x1)) : Int) < (2 : Int))) (k x0 H) (k x1 H))
def fit_Takes.b (x0 : Int) (x1 : Int) (H : AH) (k : Int → AH → Prop) : Prop :=
  bcase (decide ((x1 : Int) < (2 : Int))) (fit_Takes.j1 x0 x1 H k true) (fit_Takes.j1 x0 x1 H k (decide ((x1 : Int) > x0)))
def fit_Takes.ann : Ann := { keep := fun r => match r with  | _ => [], ord := fun r => match r with  | _ => [] }
theorem fit_Takes.link {x0 : Int} {x1 : Int} {H : AH} {k : Int → AH → Prop} (h : fit_Takes.b x0 x1 H k) : fit_Takes x0 x1 H k := by
  have e : wpC Try.prog T pan Try.f62.ntmps fit_Takes.ann (Try.f62.body.getD .skip) (argFr [(Value.int .i64 x0), (Value.int .i64 x1)]) H (bodyK T Try.f62.results.toList fun e H' => out1 (.int .i64) e noPan (fun r0 => k r0 H')) = fit_Takes.b x0 x1 H k := by kernel_rfl
  have h1 : LCalls Try.prog 62 [(Value.int .i64 x0), (Value.int .i64 x1)] H (fun e H' => out1 (.int .i64) e noPan (fun r0 => k r0 H')) := lcalls_of hT hm Try.func62 (by kernel_rfl) fit_Takes.ann (Nat.le_of_ble_eq_true (by kernel_rfl)) (e.mpr h)
  exact h1.mono fun _ _ hq => out1_in (fun h => by cases h) hq

def model_Model_Alloc.j1 (x0 : Option Addr) (k : Bool → AH → Prop) (o10 : Nat) (t9 : Int) (HL9 : AH) : Prop :=
  onPtr x0 fun a65 => elL (AH.cell? HL9 (Addr.add a65 1)) fun s67 => ldA HL9 ⟨o10, 0, none⟩ 3 fun c69 => (List.length c69 = 3) ∧ newC HL9 ⟨(setMany [(Value.int .i64 (0 : Int)), (Value.int .i64 (0 : Int)), (Value.slice none 0 0)] 0 c69), .rw, 3⟩ fun o70 H70 => slices_Insert_extent s67 t9 ⟨(some ⟨o70, 0, none⟩), 1, 1⟩ H70 fun s71 H71 => onPtr x0 fun a72 => stC H71 (Addr.add a72 1) [(Sl.val s71)] fun Hs6 => k true Hs6
def model_Model_Alloc.j2 (x0 : Option Addr) (k : Bool → AH → Prop) (o10 : Nat) (t9 : Int) (it9 : (Int) → AH → Prop) (HL9 : AH) (x60 : Bool) : Prop :=
  bcase x60 (it9 (IntKind.wrap .i64 (t9 + (1 : Int))) HL9) (model_Model_Alloc.j1 x0 k o10 t9 HL9)
def model_Model_Alloc.l3 (x0 : Option Addr) (x2 : Int) (k : Bool → AH → Prop) (o10 : Nat) (t9 : Int) (HL9 : AH) (it9 : (Int) → AH → Prop) : Prop :=
  onPtr x0 fun a44 => elL (AH.cell? HL9 (Addr.add a44 1)) fun s46 => bcase (decide ((t9 : Int) < ((s46.n : Nat) : Int))) (onPtr x0 fun a51 => elL (AH.cell? HL9 (Addr.add a51 1)) fun s53 => (0 ≤ t9 ∧ t9 < ((s53.n : Nat) : Int)) ∧ onPtr s53.a fun a55 => elI .i64 (AH.cell? HL9 (Addr.add (Addr.add a55 (Int.toNat t9 * 3)) 0)) fun n57 => model_Model_Alloc.j2 x0 k o10 t9 it9 HL9 (decide ((n57 : Int) < (IntKind.wrap .i64 ((IntKind.wrap .i64 (Int.tdiv x2 (8 : Int))) - (1 : Int)))))) (model_Model_Alloc.j2 x0 k o10 t9 it9 HL9 false)
def model_Model_Alloc.b (x0 : Option Addr) (x1 : Int) (x2 : Int) (H : AH) (k : Bool → AH → Prop) : Prop :=
  model_Model_Fits x0 x1 H fun s14 H14 => slices_Contains_intint s14 x2 H14 fun b16 H16 => bcase (!b16) (k false H16) (model_Model_Blocks x0 H16 fun s19 H19 => ((8 : Int) : Int) ≠ 0 ∧ chain_At s19 (IntKind.wrap .i64 ((IntKind.wrap .i64 (Int.tdiv x2 (8 : Int))) - (1 : Int))) H19 fun n26 H26 => (0 ≤ n26 ∧ n26 < ((s19.n : Nat) : Int)) ∧ onPtr s19.a fun a27 => elI .i64 (AH.cell? H26 (Addr.add (Addr.add a27 (Int.toNat n26 * 3)) 1)) fun n29 => fit_Need x1 H26 fun n33 H33 => fit_Takes n29 n33 H33 fun n34 H34 => newC H34 ⟨[(Value.int .i64 (0 : Int)), (Value.int .i64 (0 : Int)), (Value.slice none 0 0)], .rw, 0⟩ fun o10 H10 => (List.length [(Value.int .i64 (IntKind.wrap .i64 ((IntKind.wrap .i64 (Int.tdiv x2 (8 : Int))) - (1 : Int)))), (Value.int .i64 n34), (Value.slice none 0 0)] = 3 ∧ List.all [(Value.int .i64 (IntKind.wrap .i64 ((IntKind.wrap .i64 (Int.tdiv x2 (8 : Int))) - (1 : Int)))), (Value.int .i64 n34), (Value.slice none 0 0)] cellOK = true) ∧ stC H10 ⟨o10, 0, none⟩ [(Value.int .i64 (IntKind.wrap .i64 ((IntKind.wrap .i64 (Int.tdiv x2 (8 : Int))) - (1 : Int)))), (Value.int .i64 n34), (Value.slice none 0 0)] fun Hs2 => elI .i64 (AH.cell? Hs2 (Addr.add ⟨o10, 0, none⟩ 1)) fun n37 => (0 ≤ (IntKind.wrap .i64 ((IntKind.wrap .i64 (n37 - (1 : Int))) * (8 : Int))) ∧ (IntKind.wrap .i64 ((IntKind.wrap .i64 (n37 - (1 : Int))) * (8 : Int))) ≤ (IntKind.wrap .i64 ((IntKind.wrap .i64 (n37 - (1 : Int))) * (8 : Int))) ∧ (IntKind.wrap .i64 ((IntKind.wrap .i64 (n37 - (1 : Int))) * (8 : Int))) ≤ (lim : Int)) ∧ newC Hs2 ⟨zerosOf (Int.toNat (IntKind.wrap .i64 ((IntKind.wrap .i64 (n37 - (1 : Int))) * (8 : Int)))) [(Value.int .u8 (0 : Int))], .rw, 1⟩ fun o40 H40 => stC H40 (Addr.add ⟨o10, 0, none⟩ 2) [(Value.slice (some ⟨o40, 0, none⟩) (Int.toNat (IntKind.wrap .i64 ((IntKind.wrap .i64 (n37 - (1 : Int))) * (8 : Int)))) 1)] fun Hs4 => loopT (model_Model_Alloc.l3 x0 x2 k o10) (((0 : Int)) : Int) Hs4)
def model_Model_Alloc.ann : Ann := { keep := fun r => match r with | 9 => [(11, .int .i64)] | _ => [], ord := fun r => match r with | 11 => [0, 1, 2, 3, 4, 5, 6, 7, 8, 9, 10, 11] | _ => [] }
theorem model_Model_Alloc.link {x0 : Option Addr} {x1 : Int} {x2 : Int} {H : AH} {k : Bool → AH → Prop} (h : model_Model_Alloc.b x0 x1 x2 H k) : model_Model_Alloc x0 x1 x2 H k := by
  have e : wpC Try.prog T pan Try.f18.ntmps model_Model_Alloc.ann (Try.f18.body.getD .skip) (argFr [(Value.pointer x0), (Value.int .i64 x1), (Value.int .i64 x2)]) H (bodyK T Try.f18.results.toList fun e H' => out1 .bool e noPan (fun r0 => k r0 H')) = model_Model_Alloc.b x0 x1 x2 H k := by kernel_rfl
  have h1 : LCalls Try.prog 18 [(Value.pointer x0), (Value.int .i64 x1), (Value.int .i64 x2)] H (fun e H' => out1 .bool e noPan (fun r0 => k r0 H')) := lcalls_of hT hm Try.func18 (by kernel_rfl) model_Model_Alloc.ann (Nat.le_of_ble_eq_true (by kernel_rfl)) (e.mpr h)
  exact h1.mono fun _ _ hq => out1_in (fun h => by cases h) hq

def model_extent_off.b (x0 : List Value) (H : AH) (k : Int → AH → Prop) : Prop :=
  newC H ⟨x0, .rw, 0⟩ fun o1 H1 => elI .i64 (AH.cell? H1 (Addr.add ⟨o1, 0, none⟩ 0)) fun n4 => k (IntKind.wrap .i64 ((IntKind.wrap .i64 (n4 + (1 : Int))) * (8 : Int))) H1
def model_extent_off.ann : Ann := { keep := fun r => match r with  | _ => [], ord := fun r => match r with  | _ => [] }
theorem model_extent_off.link {x0 : List Value} {H : AH} {k : Int → AH → Prop} (h : model_extent_off.b x0 H k) : model_extent_off x0 H k := by
  have e : wpC Try.prog T pan Try.f94.ntmps model_extent_off.ann (Try.f94.body.getD .skip) (argFr [(Value.agg (List.toArray x0))]) H (bodyK T Try.f94.results.toList fun e H' => out1 (.int .i64) e noPan (fun r0 => k r0 H')) = model_extent_off.b x0 H k := by kernel_rfl
  have h1 : LCalls Try.prog 94 [(Value.agg (List.toArray x0))] H (fun e H' => out1 (.int .i64) e noPan (fun r0 => k r0 H')) := lcalls_of hT hm Try.func94 (by kernel_rfl) model_extent_off.ann (Nat.le_of_ble_eq_true (by kernel_rfl)) (e.mpr h)
  exact h1.mono fun _ _ hq => out1_in (fun h => by cases h) hq

def model_Model_bytes.j1 (x1 : Int) (x2 : Int) (k : Sl → Int → AH → Prop) (t4 : Sl × Int × Int) (it4 : (Sl × Int × Int) → AH → Prop) (o9 : Nat) (x45 : Bool) (Hj : AH) : Prop :=
  bcase x45 (ldA Hj ⟨o9, 0, none⟩ 3 fun c47 => model_extent_off c47 Hj fun n48 H48 => elL (AH.cell? H48 (Addr.add ⟨o9, 0, none⟩ 2)) fun s51 => (0 ≤ (IntKind.wrap .i64 (x1 - n48)) ∧ (IntKind.wrap .i64 (x1 - n48)) ≤ (IntKind.wrap .i64 ((IntKind.wrap .i64 (x1 - n48)) + x2)) ∧ (IntKind.wrap .i64 ((IntKind.wrap .i64 (x1 - n48)) + x2)) ≤ ((s51.n : Nat) : Int)) ∧ k ⟨(Option.map (fun x => Addr.add x (Int.toNat (IntKind.wrap .i64 (x1 - n48)) * 1)) s51.a), (Int.toNat (IntKind.wrap .i64 ((IntKind.wrap .i64 (x1 - n48)) + x2)) - Int.toNat (IntKind.wrap .i64 (x1 - n48))), 0⟩ (0 : Int) H48) (it4 (t4.1, t4.2.1, (IntKind.wrap .i64 (t4.2.2 + (1 : Int)))) Hj)
def model_Model_bytes.l2 (x1 : Int) (x2 : Int) (k : Sl → Int → AH → Prop) (s24 : Sl) (t4 : Sl × Int × Int) (HL4 : AH) (it4 : (Sl × Int × Int) → AH → Prop) : Prop :=
  bcase (decide ((t4.2.2 : Int) < ((s24.n : Nat) : Int))) ((0 ≤ t4.2.2 ∧ t4.2.2 < ((s24.n : Nat) : Int)) ∧ onPtr s24.a fun a28 => ldA HL4 (Addr.add a28 (Int.toNat t4.2.2 * 3)) 3 fun c29 => newC HL4 ⟨[(Value.int .i64 (0 : Int)), (Value.int .i64 (0 : Int)), (Value.slice none 0 0)], .rw, 0⟩ fun o9 H9 => (List.length c29 = 3 ∧ List.all c29 cellOK = true) ∧ stC H9 ⟨o9, 0, none⟩ c29 fun Hs2 => ldA Hs2 ⟨o9, 0, none⟩ 3 fun c31 => model_extent_off c31 Hs2 fun n32 H32 => bcase (decide ((x1 : Int) ≥ n32)) (ldA H32 ⟨o9, 0, none⟩ 3 fun c36 => elL (AH.cell? H32 (Addr.add ⟨o9, 0, none⟩ 2)) fun s39 => model_extent_off c36 H32 fun n37 H37 => AH.cell? H37 (Addr.add ⟨o9, 0, none⟩ 2) = some (Sl.val s39) ∧ model_Model_bytes.j1 x1 x2 k t4 it4 o9 (decide ((x1 : Int) ≤ (IntKind.wrap .i64 ((IntKind.wrap .i64 (n37 + ((s39.n : Nat) : Int))) - x2)))) H37) (model_Model_bytes.j1 x1 x2 k t4 it4 o9 false H32)) (k ⟨none, 0, 0⟩ (1 : Int) HL4)
def model_Model_bytes.j3 (x0 : Option Addr) (x1 : Int) (x2 : Int) (H : AH) (k : Sl → Int → AH → Prop) (x20 : Bool) : Prop :=
  bcase x20 (k ⟨none, 0, 0⟩ (1 : Int) H) (onPtr x0 fun a22 => elL (AH.cell? H (Addr.add a22 1)) fun s24 => loopT (model_Model_bytes.l2 x1 x2 k s24) ((⟨none, 0, 0⟩, (0 : Int), (0 : Int)) : Sl × Int × Int) H)
def model_Model_bytes.b (x0 : Option Addr) (x1 : Int) (x2 : Int) (H : AH) (k : Sl → Int → AH → Prop) : Prop :=
  bcase (Option.isNone x0) (model_Model_bytes.j3 x0 x1 x2 H k true) (bcase (decide ((x2 : Int) < (0 : Int))) (model_Model_bytes.j3 x0 x1 x2 H k true) (model_Model_bytes.j3 x0 x1 x2 H k (decide ((x2 : Int) > (448 : Int)))))
def model_Model_bytes.ann : Ann := { keep := fun r => match r with | 4 => [(6, .sl), (7, .int .i64), (26, .int .i64)] | _ => [], ord := fun r => match r with | 6 => [0, 1, 2, 3, 4, 5, 6, 8, 9, 10, 12, 7, 11, 13, 14, 15] | _ => [] }
theorem model_Model_bytes.link {x0 : Option Addr} {x1 : Int} {x2 : Int} {H : AH} {k : Sl → Int → AH → Prop} (h : model_Model_bytes.b x0 x1 x2 H k) : model_Model_bytes x0 x1 x2 H k := by
  have e : wpC Try.prog T pan Try.f67.ntmps model_Model_bytes.ann (Try.f67.body.getD .skip) (argFr [(Value.pointer x0), (Value.int .i64 x1), (Value.int .i64 x2)]) H (bodyK T Try.f67.results.toList fun e H' => out2 .sl (.int .i64) e noPan (fun r0 r1 => k r0 r1 H')) = model_Model_bytes.b x0 x1 x2 H k := by kernel_rfl
  have h1 : LCalls Try.prog 67 [(Value.pointer x0), (Value.int .i64 x1), (Value.int .i64 x2)] H (fun e H' => out2 .sl (.int .i64) e noPan (fun r0 r1 => k r0 r1 H')) := lcalls_of hT hm Try.func67 (by kernel_rfl) model_Model_bytes.ann (Nat.le_of_ble_eq_true (by kernel_rfl)) (e.mpr h)
  exact h1.mono fun _ _ hq => out2_in (fun h => by cases h) (fun h => by cases h) hq

def model_Model_Write.b (x0 : Option Addr) (x1 : Int) (x2 : Sl) (H : AH) (k : Int → AH → Prop) : Prop :=
  model_Model_bytes x0 x1 ((x2.n : Nat) : Int) H fun s14a n14b H14 => copyC 1 H14 s14a x2 fun n19 H19 => k n14b H19
def model_Model_Write.ann : Ann := { keep := fun r => match r with  | _ => [], ord := fun r => match r with  | _ => [] }
theorem model_Model_Write.link {x0 : Option Addr} {x1 : Int} {x2 : Sl} {H : AH} {k : Int → AH → Prop} (h : model_Model_Write.b x0 x1 x2 H k) : model_Model_Write x0 x1 x2 H k := by
  have e : wpC Try.prog T pan Try.f24.ntmps model_Model_Write.ann (Try.f24.body.getD .skip) (argFr [(Value.pointer x0), (Value.int .i64 x1), (Sl.val x2)]) H (bodyK T Try.f24.results.toList fun e H' => out1 (.int .i64) e noPan (fun r0 => k r0 H')) = model_Model_Write.b x0 x1 x2 H k := by kernel_rfl
  have h1 : LCalls Try.prog 24 [(Value.pointer x0), (Value.int .i64 x1), (Sl.val x2)] H (fun e H' => out1 (.int .i64) e noPan (fun r0 => k r0 H')) := lcalls_of hT hm Try.func24 (by kernel_rfl) model_Model_Write.ann (Nat.le_of_ble_eq_true (by kernel_rfl)) (e.mpr h)
  exact h1.mono fun _ _ hq => out1_in (fun h => by cases h) hq

def slices_Clone_bytebyte.b (x0 : Sl) (H : AH) (k : Sl → AH → Prop) : Prop :=
  bcase (Option.isNone x0.a) (k ⟨none, 0, 0⟩ H) (newC H ⟨[], .rw, 1⟩ fun o5 H5 => appendC 1 H5 ⟨(some ⟨o5, 0, none⟩), 0, 1⟩ x0 fun s7 H7 => k s7 H7)
def slices_Clone_bytebyte.ann : Ann := { keep := fun r => match r with  | _ => [], ord := fun r => match r with  | _ => [] }
theorem slices_Clone_bytebyte.link {x0 : Sl} {H : AH} {k : Sl → AH → Prop} (h : slices_Clone_bytebyte.b x0 H k) : slices_Clone_bytebyte x0 H k := by
  have e : wpC Try.prog T pan Try.f68.ntmps slices_Clone_bytebyte.ann (Try.f68.body.getD .skip) (argFr [(Sl.val x0)]) H (bodyK T Try.f68.results.toList fun e H' => out1 .sl e noPan (fun r0 => k r0 H')) = slices_Clone_bytebyte.b x0 H k := by kernel_rfl
  have h1 : LCalls Try.prog 68 [(Sl.val x0)] H (fun e H' => out1 .sl e noPan (fun r0 => k r0 H')) := lcalls_of hT hm Try.func68 (by kernel_rfl) slices_Clone_bytebyte.ann (Nat.le_of_ble_eq_true (by kernel_rfl)) (e.mpr h)
  exact h1.mono fun _ _ hq => out1_in (fun h => by cases h) hq

def model_Model_Read.b (x0 : Option Addr) (x1 : Int) (x2 : Int) (H : AH) (k : Sl → Int → AH → Prop) : Prop :=
  model_Model_bytes x0 x1 x2 H fun s14a n14b H14 => slices_Clone_bytebyte s14a H14 fun s18 H18 => k s18 n14b H18
def model_Model_Read.ann : Ann := { keep := fun r => match r with  | _ => [], ord := fun r => match r with  | _ => [] }
theorem model_Model_Read.link {x0 : Option Addr} {x1 : Int} {x2 : Int} {H : AH} {k : Sl → Int → AH → Prop} (h : model_Model_Read.b x0 x1 x2 H k) : model_Model_Read x0 x1 x2 H k := by
  have e : wpC Try.prog T pan Try.f25.ntmps model_Model_Read.ann (Try.f25.body.getD .skip) (argFr [(Value.pointer x0), (Value.int .i64 x1), (Value.int .i64 x2)]) H (bodyK T Try.f25.results.toList fun e H' => out2 .sl (.int .i64) e noPan (fun r0 r1 => k r0 r1 H')) = model_Model_Read.b x0 x1 x2 H k := by kernel_rfl
  have h1 : LCalls Try.prog 25 [(Value.pointer x0), (Value.int .i64 x1), (Value.int .i64 x2)] H (fun e H' => out2 .sl (.int .i64) e noPan (fun r0 r1 => k r0 r1 H')) := lcalls_of hT hm Try.func25 (by kernel_rfl) model_Model_Read.ann (Nat.le_of_ble_eq_true (by kernel_rfl)) (e.mpr h)
  exact h1.mono fun _ _ hq => out2_in (fun h => by cases h) (fun h => by cases h) hq

def model_Model_find_1.b (x0 : List Value) (x1 : Option Addr) (H : AH) (k : Bool → AH → Prop) : Prop :=
  newC H ⟨x0, .rw, 0⟩ fun o2 H2 => ldA H2 ⟨o2, 0, none⟩ 3 fun c4 => onPtr x1 fun a6 => elI .i64 (AH.cell? H2 a6) fun n6 => model_extent_off c4 H2 fun n5 H5 => AH.cell? H5 a6 = some (Value.int .i64 n6) ∧ k ((n5 : Int) == n6) H5
def model_Model_find_1.ann : Ann := { keep := fun r => match r with  | _ => [], ord := fun r => match r with | 1 => [0, 2, 1, 3, 4] | _ => [] }
theorem model_Model_find_1.link {x0 : List Value} {x1 : Option Addr} {H : AH} {k : Bool → AH → Prop} (h : model_Model_find_1.b x0 x1 H k) : model_Model_find_1 x0 x1 H k := by
  have e : wpC Try.prog T pan Try.f93.ntmps model_Model_find_1.ann (Try.f93.body.getD .skip) (argFr [(Value.agg (List.toArray x0)), (Value.pointer x1)]) H (bodyK T Try.f93.results.toList fun e H' => out1 .bool e noPan (fun r0 => k r0 H')) = model_Model_find_1.b x0 x1 H k := by kernel_rfl
  have h1 : LCalls Try.prog 93 [(Value.agg (List.toArray x0)), (Value.pointer x1)] H (fun e H' => out1 .bool e noPan (fun r0 => k r0 H')) := lcalls_of hT hm Try.func93 (by kernel_rfl) model_Model_find_1.ann (Nat.le_of_ble_eq_true (by kernel_rfl)) (e.mpr h)
  exact h1.mono fun _ _ hq => out1_in (fun h => by cases h) hq

def model_Model_find.b (x0 : Option Addr) (x1 : Int) (H : AH) (k : Int → AH → Prop) : Prop :=
  newC H ⟨[(Value.int .i64 x1)], .rw, 0⟩ fun o3 H3 => bcase (Option.isNone x0) (k (-1 : Int) H3) (onPtr x0 fun a8 => elL (AH.cell? H3 (Addr.add a8 1)) fun s10 => slices_IndexFunc_extent_at_model_Model_find_1 s10 (some ⟨o3, 0, none⟩) H3 fun n12 H12 => k n12 H12)
def model_Model_find.ann : Ann := { keep := fun r => match r with  | _ => [], ord := fun r => match r with  | _ => [] }
theorem model_Model_find.link {x0 : Option Addr} {x1 : Int} {H : AH} {k : Int → AH → Prop} (h : model_Model_find.b x0 x1 H k) : model_Model_find x0 x1 H k := by
  have e : wpC Try.prog T pan Try.f64.ntmps model_Model_find.ann (Try.f64.body.getD .skip) (argFr [(Value.pointer x0), (Value.int .i64 x1)]) H (bodyK T Try.f64.results.toList fun e H' => out1 (.int .i64) e noPan (fun r0 => k r0 H')) = model_Model_find.b x0 x1 H k := by kernel_rfl
  have h1 : LCalls Try.prog 64 [(Value.pointer x0), (Value.int .i64 x1)] H (fun e H' => out1 (.int .i64) e noPan (fun r0 => k r0 H')) := lcalls_of hT hm Try.func64 (by kernel_rfl) model_Model_find.ann (Nat.le_of_ble_eq_true (by kernel_rfl)) (e.mpr h)
  exact h1.mono fun _ _ hq => out1_in (fun h => by cases h) hq

def model_Model_SetRoot.j1 (x0 : Option Addr) (x1 : Int) (k : Int → AH → Prop) (x16 : Bool) (Hj : AH) : Prop :=
  bcase x16 (k (1 : Int) Hj) (onPtr x0 fun a19 => stC Hj (Addr.add a19 2) [(Value.int .i64 x1)] fun Hs2 => k (0 : Int) Hs2)
def model_Model_SetRoot.b (x0 : Option Addr) (x1 : Int) (H : AH) (k : Int → AH → Prop) : Prop :=
  bcase (Option.isNone x0) (model_Model_SetRoot.j1 x0 x1 k true H) (bcase ((x1 : Int) != (0 : Int)) (model_Model_find x0 x1 H fun n13 H13 => model_Model_SetRoot.j1 x0 x1 k (decide ((n13 : Int) < (0 : Int))) H13) (model_Model_SetRoot.j1 x0 x1 k false H))
def model_Model_SetRoot.ann : Ann := { keep := fun r => match r with  | _ => [], ord := fun r => match r with  | _ => [] }
theorem model_Model_SetRoot.link {x0 : Option Addr} {x1 : Int} {H : AH} {k : Int → AH → Prop} (h : model_Model_SetRoot.b x0 x1 H k) : model_Model_SetRoot x0 x1 H k := by
  have e : wpC Try.prog T pan Try.f19.ntmps model_Model_SetRoot.ann (Try.f19.body.getD .skip) (argFr [(Value.pointer x0), (Value.int .i64 x1)]) H (bodyK T Try.f19.results.toList fun e H' => out1 (.int .i64) e noPan (fun r0 => k r0 H')) = model_Model_SetRoot.b x0 x1 H k := by kernel_rfl
  have h1 : LCalls Try.prog 19 [(Value.pointer x0), (Value.int .i64 x1)] H (fun e H' => out1 (.int .i64) e noPan (fun r0 => k r0 H')) := lcalls_of hT hm Try.func19 (by kernel_rfl) model_Model_SetRoot.ann (Nat.le_of_ble_eq_true (by kernel_rfl)) (e.mpr h)
  exact h1.mono fun _ _ hq => out1_in (fun h => by cases h) hq

def model_Model_Root.b (x0 : Option Addr) (H : AH) (k : Int → AH → Prop) : Prop :=
  bcase (Option.isNone x0) (k (0 : Int) H) (onPtr x0 fun a6 => elI .i64 (AH.cell? H (Addr.add a6 2)) fun n8 => k n8 H)
def model_Model_Root.ann : Ann := { keep := fun r => match r with  | _ => [], ord := fun r => match r with  | _ => [] }
theorem model_Model_Root.link {x0 : Option Addr} {H : AH} {k : Int → AH → Prop} (h : model_Model_Root.b x0 H k) : model_Model_Root x0 H k := by
  have e : wpC Try.prog T pan Try.f20.ntmps model_Model_Root.ann (Try.f20.body.getD .skip) (argFr [(Value.pointer x0)]) H (bodyK T Try.f20.results.toList fun e H' => out1 (.int .i64) e noPan (fun r0 => k r0 H')) = model_Model_Root.b x0 H k := by kernel_rfl
  have h1 : LCalls Try.prog 20 [(Value.pointer x0)] H (fun e H' => out1 (.int .i64) e noPan (fun r0 => k r0 H')) := lcalls_of hT hm Try.func20 (by kernel_rfl) model_Model_Root.ann (Nat.le_of_ble_eq_true (by kernel_rfl)) (e.mpr h)
  exact h1.mono fun _ _ hq => out1_in (fun h => by cases h) hq

def model_Model_Free.b (x0 : Option Addr) (x1 : Int) (H : AH) (k : Int → AH → Prop) : Prop :=
  model_Model_find x0 x1 H fun n8 H8 => bcase (decide ((n8 : Int) < (0 : Int))) (k (1 : Int) H8) (onPtr x0 fun a14 => elI .i64 (AH.cell? H8 (Addr.add a14 2)) fun n16 => bcase ((n16 : Int) == x1) (k (5 : Int) H8) (onPtr x0 fun a21 => elL (AH.cell? H8 (Addr.add a21 1)) fun s23 => slices_Delete_extent s23 n8 (IntKind.wrap .i64 (n8 + (1 : Int))) H8 fun s27 H27 => onPtr x0 fun a28 => stC H27 (Addr.add a28 1) [(Sl.val s27)] fun Hs2 => k (0 : Int) Hs2))
def model_Model_Free.ann : Ann := { keep := fun r => match r with  | _ => [], ord := fun r => match r with  | _ => [] }
theorem model_Model_Free.link {x0 : Option Addr} {x1 : Int} {H : AH} {k : Int → AH → Prop} (h : model_Model_Free.b x0 x1 H k) : model_Model_Free x0 x1 H k := by
  have e : wpC Try.prog T pan Try.f21.ntmps model_Model_Free.ann (Try.f21.body.getD .skip) (argFr [(Value.pointer x0), (Value.int .i64 x1)]) H (bodyK T Try.f21.results.toList fun e H' => out1 (.int .i64) e noPan (fun r0 => k r0 H')) = model_Model_Free.b x0 x1 H k := by kernel_rfl
  have h1 : LCalls Try.prog 21 [(Value.pointer x0), (Value.int .i64 x1)] H (fun e H' => out1 (.int .i64) e noPan (fun r0 => k r0 H')) := lcalls_of hT hm Try.func21 (by kernel_rfl) model_Model_Free.ann (Nat.le_of_ble_eq_true (by kernel_rfl)) (e.mpr h)
  exact h1.mono fun _ _ hq => out1_in (fun h => by cases h) hq

def darninglaw20_awake.b (H : AH) (k : Bool → AH → Prop) : Prop :=
  model_New (16 : Int) H fun p8 H8 => bcase (Option.isNone p8) (k false H8) (model_Model_Fits p8 (8 : Int) H8 fun s12 H12 => model_Model_Alloc p8 (8 : Int) (8 : Int) H12 fun b14 H14 => newC H14 ⟨[(Value.int .u8 (5 : Int))], .rw, 1⟩ fun o16 H16 => model_Model_Write p8 (8 : Int) ⟨(some ⟨o16, 0, none⟩), 1, 1⟩ H16 fun n17 H17 => model_Model_Read p8 (8 : Int) (2 : Int) H17 fun s20a n20b H20 => model_Model_SetRoot p8 (8 : Int) H20 fun n24 H24 => bcase ((((s12.n : Nat) : Int) : Int) == (1 : Int)) ((0 ≤ (0 : Int) ∧ (0 : Int) < ((s12.n : Nat) : Int)) ∧ onPtr s12.a fun a30 => elI .i64 (AH.cell? H24 (Addr.add a30 (Int.toNat (0 : Int) * 1))) fun n31 => bcase ((n31 : Int) == (8 : Int)) (bcase b14 (bcase ((n17 : Int) == (0 : Int)) (bcase ((n20b : Int) == (0 : Int)) (strC H24 s20a fun y47 => bcase (ByteArray.toList ⟨List.toArray y47⟩ == ByteArray.toList ⟨#[5, 0]⟩) (bcase ((n24 : Int) == (0 : Int)) (model_Model_Root p8 H24 fun n56 H56 => bcase ((n56 : Int) == (8 : Int)) (model_Model_Free p8 (8 : Int) H56 fun n61 H61 => bcase ((n61 : Int) == (5 : Int)) (model_Model_Blocks p8 H61 fun s66 H66 => k ((((s66.n : Nat) : Int) : Int) == (2 : Int)) H66) (k false H61)) (k false H56)) (k false H24)) (k false H24)) (k false H24)) (k false H24)) (k false H24)) (k false H24)) (k false H24))
def darninglaw20_awake.ann : Ann := { keep := fun r => match r with  | _ => [], ord := fun r => match r with  | _ => [] }
theorem darninglaw20_awake.link {_u : Unit} {H : AH} {k : Bool → AH → Prop} (h : darninglaw20_awake.b  H k) : darninglaw20_awake  H k := by
  have e : wpC Try.prog T pan Try.f16.ntmps darninglaw20_awake.ann (Try.f16.body.getD .skip) (argFr []) H (bodyK T Try.f16.results.toList fun e H' => out1 .bool e noPan (fun r0 => k r0 H')) = darninglaw20_awake.b  H k := by kernel_rfl
  have h1 : LCalls Try.prog 16 [] H (fun e H' => out1 .bool e noPan (fun r0 => k r0 H')) := lcalls_of hT hm Try.func16 (by kernel_rfl) darninglaw20_awake.ann (Nat.le_of_ble_eq_true (by kernel_rfl)) (e.mpr h)
  exact h1.mono fun _ _ hq => out1_in (fun h => by cases h) hq

def darninglaw20_ModelRoots.j1 (k : Bool → AH → Prop) (p12 : Option Addr) (n49 : Int) (x91 : Bool) (Hj : AH) : Prop :=
  bcase x91 (k false Hj) (model_Model_Free p12 n49 Hj fun n94 H94 => bcase ((n94 : Int) == (0 : Int)) (model_Model_Free p12 n49 H94 fun n99 H99 => bcase ((n99 : Int) == (1 : Int)) (model_Model_SetRoot p12 n49 H99 fun n105 H105 => bcase ((n105 : Int) == (1 : Int)) (model_Model_Root p12 H105 fun n110 H110 => bcase ((n110 : Int) == (0 : Int)) (model_Model_Blocks p12 H110 fun s115 H115 => bcase ((((s115.n : Nat) : Int) : Int) == (1 : Int)) (darninglaw20_awake  H115 fun b120 H120 => k b120 H120) (k false H115)) (k false H110)) (k false H105)) (k false H99)) (k false H94))
def darninglaw20_ModelRoots.j2 (k : Bool → AH → Prop) (p12 : Option Addr) (n49 : Int) (H52 : AH) (x70 : Bool) : Prop :=
  bcase x70 (k false H52) (model_Model_SetRoot p12 n49 H52 fun n73 H73 => bcase ((n73 : Int) != (0 : Int)) (darninglaw20_ModelRoots.j1 k p12 n49 true H73) (model_Model_Root p12 H73 fun n77 H77 => bcase ((n77 : Int) != n49) (darninglaw20_ModelRoots.j1 k p12 n49 true H77) (model_Model_Free p12 n49 H77 fun n84 H84 => bcase ((n84 : Int) != (5 : Int)) (darninglaw20_ModelRoots.j1 k p12 n49 true H84) (model_Model_SetRoot p12 (0 : Int) H84 fun n89 H89 => darninglaw20_ModelRoots.j1 k p12 n49 ((n89 : Int) != (0 : Int)) H89))))
def darninglaw20_ModelRoots.j3 (x2 : Int) (k : Bool → AH → Prop) (p12 : Option Addr) (s28 : Sl) (x40 : Bool) (Hj : AH) : Prop :=
  bcase x40 (bcase ((((s28.n : Nat) : Int) : Int) == (0 : Int)) (darninglaw20_awake  Hj fun b45 H45 => k b45 H45) (k false Hj)) ((0 ≤ (0 : Int) ∧ (0 : Int) < ((s28.n : Nat) : Int)) ∧ onPtr s28.a fun a48 => elI .i64 (AH.cell? Hj (Addr.add a48 (Int.toNat (0 : Int) * 1))) fun n49 => model_Model_SetRoot p12 x2 Hj fun n52 H52 => bcase ((x2 : Int) == (0 : Int)) (bcase (!(((n52 : Int) == (0 : Int)) == true)) (darninglaw20_ModelRoots.j2 k p12 n49 H52 true) (bcase ((n52 : Int) != (0 : Int)) (darninglaw20_ModelRoots.j2 k p12 n49 H52 ((n52 : Int) != (1 : Int))) (darninglaw20_ModelRoots.j2 k p12 n49 H52 false))) (bcase (!(((n52 : Int) == (0 : Int)) == ((x2 : Int) == n49))) (darninglaw20_ModelRoots.j2 k p12 n49 H52 true) (bcase ((n52 : Int) != (0 : Int)) (darninglaw20_ModelRoots.j2 k p12 n49 H52 ((n52 : Int) != (1 : Int))) (darninglaw20_ModelRoots.j2 k p12 n49 H52 false))))
def darninglaw20_ModelRoots.b (x0 : Int) (x1 : Int) (x2 : Int) (H : AH) (k : Bool → AH → Prop) : Prop :=
  model_New x0 H fun p12 H12 => bcase (Option.isNone p12) (darningref4_NewModel x0 H12 fun p16 H16 => bcase (Option.isNone p16) (darninglaw20_awake  H16 fun b19 H19 => k b19 H19) (k false H16)) (((16 : Int) : Int) ≠ 0 ∧ model_Model_Fits p12 (IntKind.wrap .i64 ((1 : Int) + (IntKind.wrap .i64 (Int.tmod (IntKind.wrap .u64 x1) (16 : Int))))) H12 fun s28 H28 => bcase ((((s28.n : Nat) : Int) : Int) == (0 : Int)) (darninglaw20_ModelRoots.j3 x2 k p12 s28 true H28) ((0 ≤ (0 : Int) ∧ (0 : Int) < ((s28.n : Nat) : Int)) ∧ onPtr s28.a fun a36 => elI .i64 (AH.cell? H28 (Addr.add a36 (Int.toNat (0 : Int) * 1))) fun n37 => model_Model_Alloc p12 (IntKind.wrap .i64 ((1 : Int) + (IntKind.wrap .i64 (Int.tmod (IntKind.wrap .u64 x1) (16 : Int))))) n37 H28 fun b38 H38 => darninglaw20_ModelRoots.j3 x2 k p12 s28 (!b38) H38))
def darninglaw20_ModelRoots.ann : Ann := { keep := fun r => match r with  | _ => [], ord := fun r => match r with  | _ => [] }
theorem darninglaw20_ModelRoots.link {x0 : Int} {x1 : Int} {x2 : Int} {H : AH} {k : Bool → AH → Prop} (h : darninglaw20_ModelRoots.b x0 x1 x2 H k) : darninglaw20_ModelRoots x0 x1 x2 H k := by
  have e : wpC Try.prog T pan Try.f3.ntmps darninglaw20_ModelRoots.ann (Try.f3.body.getD .skip) (argFr [(Value.int .i64 x0), (Value.int .i64 x1), (Value.int .i64 x2)]) H (bodyK T Try.f3.results.toList fun e H' => out1 .bool e noPan (fun r0 => k r0 H')) = darninglaw20_ModelRoots.b x0 x1 x2 H k := by kernel_rfl
  have h1 : LCalls Try.prog 3 [(Value.int .i64 x0), (Value.int .i64 x1), (Value.int .i64 x2)] H (fun e H' => out1 .bool e noPan (fun r0 => k r0 H')) := lcalls_of hT hm Try.func3 (by kernel_rfl) darninglaw20_ModelRoots.ann (Nat.le_of_ble_eq_true (by kernel_rfl)) (e.mpr h)
  exact h1.mono fun _ _ hq => out1_in (fun h => by cases h) hq

def darningref4_Need.j1 (x0 : Int) (H : AH) (k : Int → AH → Prop) (x8 : Bool) : Prop :=
  bcase x8 (k (0 : Int) H) (((8 : Int) : Int) ≠ 0 ∧ k (IntKind.wrap .i64 ((1 : Int) + (IntKind.wrap .i64 (Int.tdiv (IntKind.wrap .i64 (x0 + (7 : Int))) (8 : Int))))) H)
def darningref4_Need.b (x0 : Int) (H : AH) (k : Int → AH → Prop) : Prop :=
  bcase (decide ((x0 : Int) < (1 : Int))) (darningref4_Need.j1 x0 H k true) (darningref4_Need.j1 x0 H k (decide ((x0 : Int) > (448 : Int))))
def darningref4_Need.ann : Ann := { keep := fun r => match r with  | _ => [], ord := fun r => match r with  | _ => [] }
theorem darningref4_Need.link {x0 : Int} {H : AH} {k : Int → AH → Prop} (h : darningref4_Need.b x0 H k) : darningref4_Need x0 H k := by
  have e : wpC Try.prog T pan Try.f23.ntmps darningref4_Need.ann (Try.f23.body.getD .skip) (argFr [(Value.int .i64 x0)]) H (bodyK T Try.f23.results.toList fun e H' => out1 (.int .i64) e noPan (fun r0 => k r0 H')) = darningref4_Need.b x0 H k := by kernel_rfl
  have h1 : LCalls Try.prog 23 [(Value.int .i64 x0)] H (fun e H' => out1 (.int .i64) e noPan (fun r0 => k r0 H')) := lcalls_of hT hm Try.func23 (by kernel_rfl) darningref4_Need.ann (Nat.le_of_ble_eq_true (by kernel_rfl)) (e.mpr h)
  exact h1.mono fun _ _ hq => out1_in (fun h => by cases h) hq

def darninglaw20_ModelBytes.j1 (k : Bool → AH → Prop) (p24 : Option Addr) (n34 : Int) (s61a : Sl) (n61b : Int) (o65 : Nat) (Hj : AH) : Prop :=
  model_Model_Read p24 (8 : Int) (IntKind.wrap .i64 ((IntKind.wrap .i64 ((IntKind.wrap .i64 (n34 - (1 : Int))) * (8 : Int))) + (9 : Int))) Hj fun s77a n77b H77 => bcase ((n61b : Int) == (0 : Int)) (strC H77 s61a fun y84 => strC H77 ⟨(some ⟨o65, 0, none⟩), (Int.toNat (IntKind.wrap .i64 ((IntKind.wrap .i64 (n34 - (1 : Int))) * (8 : Int)))), 1⟩ fun y86 => bcase (ByteArray.toList ⟨List.toArray y84⟩ == ByteArray.toList ⟨List.toArray y86⟩) (bcase ((n77b : Int) == (1 : Int)) (darninglaw20_awake  H77 fun b94 H94 => k b94 H94) (k false H77)) (k false H77)) (k false H77)
def darninglaw20_ModelBytes.j2 (x0 : Int) (x1 : Int) (x2 : Sl) (k : Bool → AH → Prop) (p24 : Option Addr) (x32 : Bool) (Hj : AH) : Prop :=
  bcase x32 (k false Hj) (darningref4_Need (IntKind.wrap .i64 ((1 : Int) + (IntKind.wrap .i64 (Int.tmod (IntKind.wrap .u64 x0) (200 : Int))))) Hj fun n34 H34 => ((IntKind.wrap .u64 (IntKind.wrap .i64 ((IntKind.wrap .i64 ((IntKind.wrap .i64 (n34 - (1 : Int))) * (8 : Int))) + (1 : Int)))) : Int) ≠ 0 ∧ model_Model_Write p24 (IntKind.wrap .i64 ((8 : Int) + (IntKind.wrap .i64 (Int.tmod (IntKind.wrap .u64 x1) (IntKind.wrap .u64 (IntKind.wrap .i64 ((IntKind.wrap .i64 ((IntKind.wrap .i64 (n34 - (1 : Int))) * (8 : Int))) + (1 : Int)))))))) x2 H34 fun n48 H48 => bcase (!(((n48 : Int) == (0 : Int)) == (decide (((IntKind.wrap .i64 ((IntKind.wrap .i64 (Int.tmod (IntKind.wrap .u64 x1) (IntKind.wrap .u64 (IntKind.wrap .i64 ((IntKind.wrap .i64 ((IntKind.wrap .i64 (n34 - (1 : Int))) * (8 : Int))) + (1 : Int)))))) + ((x2.n : Nat) : Int))) : Int) ≤ (IntKind.wrap .i64 ((IntKind.wrap .i64 (n34 - (1 : Int))) * (8 : Int))))))) (k false H48) (model_Model_Read p24 (8 : Int) (IntKind.wrap .i64 ((IntKind.wrap .i64 (n34 - (1 : Int))) * (8 : Int))) H48 fun s61a n61b H61 => (0 ≤ (IntKind.wrap .i64 ((IntKind.wrap .i64 (n34 - (1 : Int))) * (8 : Int))) ∧ (IntKind.wrap .i64 ((IntKind.wrap .i64 (n34 - (1 : Int))) * (8 : Int))) ≤ (IntKind.wrap .i64 ((IntKind.wrap .i64 (n34 - (1 : Int))) * (8 : Int))) ∧ (IntKind.wrap .i64 ((IntKind.wrap .i64 (n34 - (1 : Int))) * (8 : Int))) ≤ (lim : Int)) ∧ newC H61 ⟨zerosOf (Int.toNat (IntKind.wrap .i64 ((IntKind.wrap .i64 (n34 - (1 : Int))) * (8 : Int)))) [(Value.int .u8 (0 : Int))], .rw, 1⟩ fun o65 H65 => bcase ((n48 : Int) == (0 : Int)) ((0 ≤ (IntKind.wrap .i64 (Int.tmod (IntKind.wrap .u64 x1) (IntKind.wrap .u64 (IntKind.wrap .i64 ((IntKind.wrap .i64 ((IntKind.wrap .i64 (n34 - (1 : Int))) * (8 : Int))) + (1 : Int)))))) ∧ (IntKind.wrap .i64 (Int.tmod (IntKind.wrap .u64 x1) (IntKind.wrap .u64 (IntKind.wrap .i64 ((IntKind.wrap .i64 ((IntKind.wrap .i64 (n34 - (1 : Int))) * (8 : Int))) + (1 : Int)))))) ≤ (((Int.toNat (IntKind.wrap .i64 ((IntKind.wrap .i64 (n34 - (1 : Int))) * (8 : Int)))) : Nat) : Int)) ∧ copyC 1 H65 ⟨(Option.map (fun x => Addr.add x (Int.toNat (IntKind.wrap .i64 (Int.tmod (IntKind.wrap .u64 x1) (IntKind.wrap .u64 (IntKind.wrap .i64 ((IntKind.wrap .i64 ((IntKind.wrap .i64 (n34 - (1 : Int))) * (8 : Int))) + (1 : Int)))))) * 1)) (some ⟨o65, 0, none⟩)), ((Int.toNat (IntKind.wrap .i64 ((IntKind.wrap .i64 (n34 - (1 : Int))) * (8 : Int)))) - Int.toNat (IntKind.wrap .i64 (Int.tmod (IntKind.wrap .u64 x1) (IntKind.wrap .u64 (IntKind.wrap .i64 ((IntKind.wrap .i64 ((IntKind.wrap .i64 (n34 - (1 : Int))) * (8 : Int))) + (1 : Int))))))), 0⟩ x2 fun n72 H72 => darninglaw20_ModelBytes.j1 k p24 n34 s61a n61b o65 H72) (darninglaw20_ModelBytes.j1 k p24 n34 s61a n61b o65 H65)))
def darninglaw20_ModelBytes.b (x0 : Int) (x1 : Int) (x2 : Sl) (H : AH) (k : Bool → AH → Prop) : Prop :=
  ((200 : Int) : Int) ≠ 0 ∧ bcase (decide ((((x2.n : Nat) : Int) : Int) > (100 : Int))) (darninglaw20_awake  H fun b23 H23 => k b23 H23) (model_New (64 : Int) H fun p24 H24 => bcase (Option.isNone p24) (darninglaw20_ModelBytes.j2 x0 x1 x2 k p24 true H24) (model_Model_Alloc p24 (IntKind.wrap .i64 ((1 : Int) + (IntKind.wrap .i64 (Int.tmod (IntKind.wrap .u64 x0) (200 : Int))))) (8 : Int) H24 fun b30 H30 => darninglaw20_ModelBytes.j2 x0 x1 x2 k p24 (!b30) H30))
def darninglaw20_ModelBytes.ann : Ann := { keep := fun r => match r with  | _ => [], ord := fun r => match r with  | _ => [] }
theorem darninglaw20_ModelBytes.link {x0 : Int} {x1 : Int} {x2 : Sl} {H : AH} {k : Bool → AH → Prop} (h : darninglaw20_ModelBytes.b x0 x1 x2 H k) : darninglaw20_ModelBytes x0 x1 x2 H k := by
  have e : wpC Try.prog T pan Try.f4.ntmps darninglaw20_ModelBytes.ann (Try.f4.body.getD .skip) (argFr [(Value.int .i64 x0), (Value.int .i64 x1), (Sl.val x2)]) H (bodyK T Try.f4.results.toList fun e H' => out1 .bool e noPan (fun r0 => k r0 H')) = darninglaw20_ModelBytes.b x0 x1 x2 H k := by kernel_rfl
  have h1 : LCalls Try.prog 4 [(Value.int .i64 x0), (Value.int .i64 x1), (Sl.val x2)] H (fun e H' => out1 .bool e noPan (fun r0 => k r0 H')) := lcalls_of hT hm Try.func4 (by kernel_rfl) darninglaw20_ModelBytes.ann (Nat.le_of_ble_eq_true (by kernel_rfl)) (e.mpr h)
  exact h1.mono fun _ _ hq => out1_in (fun h => by cases h) hq

def darningref4_ParseWord.j1 (x0 : Int) (H : AH) (k : Int → Bool → Bool → AH → Prop) (x12 : Bool) : Prop :=
  bcase x12 (k (0 : Int) false false H) ((0 : Int) ≤ (1 : Int) ∧ k (IntKind.wrap .i64 (shrI .u64 x0 (1 : Int))) (((andI .u64 x0 (1 : Int)) : Int) == (1 : Int)) true H)
def darningref4_ParseWord.b (x0 : Int) (H : AH) (k : Int → Bool → Bool → AH → Prop) : Prop :=
  (0 : Int) ≤ (1 : Int) ∧ bcase (decide (((shrI .u64 x0 (1 : Int)) : Int) < (2 : Int))) (darningref4_ParseWord.j1 x0 H k true) ((0 : Int) ≤ (1 : Int) ∧ darningref4_ParseWord.j1 x0 H k (decide (((shrI .u64 x0 (1 : Int)) : Int) > (512 : Int))))
def darningref4_ParseWord.ann : Ann := { keep := fun r => match r with  | _ => [], ord := fun r => match r with  | _ => [] }
theorem darningref4_ParseWord.link {x0 : Int} {H : AH} {k : Int → Bool → Bool → AH → Prop} (h : darningref4_ParseWord.b x0 H k) : darningref4_ParseWord x0 H k := by
  have e : wpC Try.prog T pan Try.f103.ntmps darningref4_ParseWord.ann (Try.f103.body.getD .skip) (argFr [(Value.int .u64 x0)]) H (bodyK T Try.f103.results.toList fun e H' => out3 (.int .i64) .bool .bool e noPan (fun r0 r1 r2 => k r0 r1 r2 H')) = darningref4_ParseWord.b x0 H k := by kernel_rfl
  have h1 : LCalls Try.prog 103 [(Value.int .u64 x0)] H (fun e H' => out3 (.int .i64) .bool .bool e noPan (fun r0 r1 r2 => k r0 r1 r2 H')) := lcalls_of hT hm Try.func103 (by kernel_rfl) darningref4_ParseWord.ann (Nat.le_of_ble_eq_true (by kernel_rfl)) (e.mpr h)
  exact h1.mono fun _ _ hq => out3_in (fun h => by cases h) (fun h => by cases h) (fun h => by cases h) hq

def darningref4_MayBlocks.j1 (k : Bool → AH → Prop) (t5 : Bool × Int × Int) (it5 : (Bool × Int × Int) → AH → Prop) (o7 : Nat) (x53 : Bool) (Hj : AH) : Prop :=
  bcase x53 (k false Hj) (elI .i64 (AH.cell? Hj (Addr.add ⟨o7, 0, none⟩ 1)) fun n56 => it5 (t5.1, (IntKind.wrap .i64 (t5.2.1 + n56)), (IntKind.wrap .i64 (t5.2.2 + (1 : Int)))) Hj)
def darningref4_MayBlocks.l2 (x0 : Sl) (x1 : Int) (k : Bool → AH → Prop) (t5 : Bool × Int × Int) (HL5 : AH) (it5 : (Bool × Int × Int) → AH → Prop) : Prop :=
  bcase (decide ((t5.2.2 : Int) < ((x0.n : Nat) : Int))) ((0 ≤ t5.2.2 ∧ t5.2.2 < ((x0.n : Nat) : Int)) ∧ onPtr x0.a fun a16 => ldA HL5 (Addr.add a16 (Int.toNat t5.2.2 * 3)) 3 fun c17 => newC HL5 ⟨[(Value.int .i64 (0 : Int)), (Value.int .i64 (0 : Int)), (Value.bool false)], .rw, 0⟩ fun o7 H7 => (List.length c17 = 3 ∧ List.all c17 cellOK = true) ∧ stC H7 ⟨o7, 0, none⟩ c17 fun Hs2 => elI .i64 (AH.cell? Hs2 (Addr.add ⟨o7, 0, none⟩ 0)) fun n19 => bcase ((n19 : Int) != t5.2.1) (darningref4_MayBlocks.j1 k t5 it5 o7 true Hs2) (elI .i64 (AH.cell? Hs2 (Addr.add ⟨o7, 0, none⟩ 1)) fun n24 => darningref4_MaySize n24 Hs2 fun b25 H25 => bcase (!b25) (darningref4_MayBlocks.j1 k t5 it5 o7 true H25) (elI .i64 (AH.cell? H25 (Addr.add ⟨o7, 0, none⟩ 1)) fun n30 => bcase (decide ((n30 : Int) > (IntKind.wrap .i64 (x1 - t5.2.1)))) (darningref4_MayBlocks.j1 k t5 it5 o7 true H25) (bcase (decide ((t5.2.2 : Int) > (0 : Int))) (elB (AH.cell? H25 (Addr.add ⟨o7, 0, none⟩ 2)) fun b41 => bcase (!b41) ((0 ≤ (IntKind.wrap .i64 (t5.2.2 - (1 : Int))) ∧ (IntKind.wrap .i64 (t5.2.2 - (1 : Int))) < ((x0.n : Nat) : Int)) ∧ onPtr x0.a fun a48 => elB (AH.cell? H25 (Addr.add (Addr.add a48 (Int.toNat (IntKind.wrap .i64 (t5.2.2 - (1 : Int))) * 3)) 2)) fun b50 => darningref4_MayBlocks.j1 k t5 it5 o7 (!b50) H25) (darningref4_MayBlocks.j1 k t5 it5 o7 false H25)) (darningref4_MayBlocks.j1 k t5 it5 o7 false H25))))) (k ((t5.2.1 : Int) == x1) HL5)
def darningref4_MayBlocks.b (x0 : Sl) (x1 : Int) (H : AH) (k : Bool → AH → Prop) : Prop :=
  darningref4_mayWords x1 H fun b9 H9 => bcase (!b9) (k false H9) (loopT (darningref4_MayBlocks.l2 x0 x1 k) ((false, (0 : Int), (0 : Int)) : Bool × Int × Int) H9)
def darningref4_MayBlocks.ann : Ann := { keep := fun r => match r with | 5 => [(4, .bool), (5, .int .i64), (13, .int .i64)] | _ => [], ord := fun r => match r with  | _ => [] }
theorem darningref4_MayBlocks.link {x0 : Sl} {x1 : Int} {H : AH} {k : Bool → AH → Prop} (h : darningref4_MayBlocks.b x0 x1 H k) : darningref4_MayBlocks x0 x1 H k := by
  have e : wpC Try.prog T pan Try.f104.ntmps darningref4_MayBlocks.ann (Try.f104.body.getD .skip) (argFr [(Sl.val x0), (Value.int .i64 x1)]) H (bodyK T Try.f104.results.toList fun e H' => out1 .bool e noPan (fun r0 => k r0 H')) = darningref4_MayBlocks.b x0 x1 H k := by kernel_rfl
  have h1 : LCalls Try.prog 104 [(Sl.val x0), (Value.int .i64 x1)] H (fun e H' => out1 .bool e noPan (fun r0 => k r0 H')) := lcalls_of hT hm Try.func104 (by kernel_rfl) darningref4_MayBlocks.ann (Nat.le_of_ble_eq_true (by kernel_rfl)) (e.mpr h)
  exact h1.mono fun _ _ hq => out1_in (fun h => by cases h) hq

def darningref4_Blocks.j1 (x0 : Sl) (k : Sl → Bool → AH → Prop) (t3 : Sl × Bool × Sl × Int) (HL3 : AH) : Prop :=
  darningref4_MayBlocks t3.2.2.1 ((x0.n : Nat) : Int) HL3 fun b37 H37 => bcase (!b37) (k ⟨none, 0, 0⟩ false H37) (k t3.2.2.1 true H37)
def darningref4_Blocks.l2 (x0 : Sl) (k : Sl → Bool → AH → Prop) (t3 : Sl × Bool × Sl × Int) (HL3 : AH) (it3 : (Sl × Bool × Sl × Int) → AH → Prop) : Prop :=
  bcase (decide ((t3.2.2.2 : Int) < ((x0.n : Nat) : Int))) ((0 ≤ t3.2.2.2 ∧ t3.2.2.2 < ((x0.n : Nat) : Int)) ∧ onPtr x0.a fun a16 => elI .u64 (AH.cell? HL3 (Addr.add a16 (Int.toNat t3.2.2.2 * 1))) fun n17 => darningref4_ParseWord n17 HL3 fun n18a b18b b18c H18 => bcase (!b18c) (k ⟨none, 0, 0⟩ false H18) ((List.length [(Value.int .i64 t3.2.2.2), (Value.int .i64 n18a), (Value.bool b18b)] = 3) ∧ newC H18 ⟨[(Value.int .i64 t3.2.2.2), (Value.int .i64 n18a), (Value.bool b18b)], .rw, 3⟩ fun o29 H29 => appendC 3 H29 t3.2.2.1 ⟨(some ⟨o29, 0, none⟩), 1, 1⟩ fun s30 H30 => it3 (t3.1, t3.2.1, s30, (IntKind.wrap .i64 (t3.2.2.2 + n18a))) H30)) (darningref4_Blocks.j1 x0 k t3 HL3)
def darningref4_Blocks.b (x0 : Sl) (H : AH) (k : Sl → Bool → AH → Prop) : Prop :=
  loopT (darningref4_Blocks.l2 x0 k) ((⟨none, 0, 0⟩, false, ⟨none, 0, 0⟩, (0 : Int)) : Sl × Bool × Sl × Int) H
def darningref4_Blocks.ann : Ann := { keep := fun r => match r with | 3 => [(2, .sl), (3, .bool), (4, .sl), (5, .int .i64)] | _ => [], ord := fun r => match r with  | _ => [] }
theorem darningref4_Blocks.link {x0 : Sl} {H : AH} {k : Sl → Bool → AH → Prop} (h : darningref4_Blocks.b x0 H k) : darningref4_Blocks x0 H k := by
  have e : wpC Try.prog T pan Try.f80.ntmps darningref4_Blocks.ann (Try.f80.body.getD .skip) (argFr [(Sl.val x0)]) H (bodyK T Try.f80.results.toList fun e H' => out2 .sl .bool e noPan (fun r0 r1 => k r0 r1 H')) = darningref4_Blocks.b x0 H k := by kernel_rfl
  have h1 : LCalls Try.prog 80 [(Sl.val x0)] H (fun e H' => out2 .sl .bool e noPan (fun r0 r1 => k r0 r1 H')) := lcalls_of hT hm Try.func80 (by kernel_rfl) darningref4_Blocks.ann (Nat.le_of_ble_eq_true (by kernel_rfl)) (e.mpr h)
  exact h1.mono fun _ _ hq => out2_in (fun h => by cases h) (fun h => by cases h) hq

def darningref4_Model_Blocks.b (x0 : Option Addr) (H : AH) (k : Sl → AH → Prop) : Prop :=
  onPtr x0 fun a7 => elL (AH.cell? H (Addr.add a7 0)) fun s9 => darningref4_Blocks s9 H fun s10a b10b H10 => k s10a H10
def darningref4_Model_Blocks.ann : Ann := { keep := fun r => match r with  | _ => [], ord := fun r => match r with  | _ => [] }
theorem darningref4_Model_Blocks.link {x0 : Option Addr} {H : AH} {k : Sl → AH → Prop} (h : darningref4_Model_Blocks.b x0 H k) : darningref4_Model_Blocks x0 H k := by
  have e : wpC Try.prog T pan Try.f39.ntmps darningref4_Model_Blocks.ann (Try.f39.body.getD .skip) (argFr [(Value.pointer x0)]) H (bodyK T Try.f39.results.toList fun e H' => out1 .sl e noPan (fun r0 => k r0 H')) = darningref4_Model_Blocks.b x0 H k := by kernel_rfl
  have h1 : LCalls Try.prog 39 [(Value.pointer x0)] H (fun e H' => out1 .sl e noPan (fun r0 => k r0 H')) := lcalls_of hT hm Try.func39 (by kernel_rfl) darningref4_Model_Blocks.ann (Nat.le_of_ble_eq_true (by kernel_rfl)) (e.mpr h)
  exact h1.mono fun _ _ hq => out1_in (fun h => by cases h) hq

def darningref4_Fits.j1 (t5 : Sl × Int) (it5 : (Sl × Int) → AH → Prop) (Hs2 : AH) (x5 : Sl) (x54 : Bool) : Prop :=
  bcase x54 (newC Hs2 ⟨[(Value.int .i64 t5.2)], .rw, 1⟩ fun o57 H57 => appendC 1 H57 x5 ⟨(some ⟨o57, 0, none⟩), 1, 1⟩ fun s58 H58 => it5 (s58, (IntKind.wrap .i64 (t5.2 + (1 : Int)))) H58) (it5 (x5, (IntKind.wrap .i64 (t5.2 + (1 : Int)))) Hs2)
def darningref4_Fits.j2 (x0 : Sl) (t5 : Sl × Int) (it5 : (Sl × Int) → AH → Prop) (o7 : Nat) (Hs2 : AH) (x5 : Sl) : Prop :=
  bcase ((((x5.n : Nat) : Int) : Int) == (0 : Int)) (darningref4_Fits.j1 t5 it5 Hs2 x5 true) ((0 ≤ (0 : Int) ∧ (0 : Int) < ((x5.n : Nat) : Int)) ∧ onPtr x5.a fun a46 => elI .i64 (AH.cell? Hs2 (Addr.add a46 (Int.toNat (0 : Int) * 1))) fun n47 => (0 ≤ n47 ∧ n47 < ((x0.n : Nat) : Int)) ∧ onPtr x0.a fun a48 => elI .i64 (AH.cell? Hs2 (Addr.add (Addr.add a48 (Int.toNat n47 * 3)) 1)) fun n50 => elI .i64 (AH.cell? Hs2 (Addr.add ⟨o7, 0, none⟩ 1)) fun n52 => darningref4_Fits.j1 t5 it5 Hs2 x5 ((n50 : Int) == n52))
def darningref4_Fits.j3 (x0 : Sl) (t5 : Sl × Int) (it5 : (Sl × Int) → AH → Prop) (o7 : Nat) (Hs2 : AH) (x39 : Bool) : Prop :=
  bcase x39 (darningref4_Fits.j2 x0 t5 it5 o7 Hs2 ⟨none, 0, 0⟩) (darningref4_Fits.j2 x0 t5 it5 o7 Hs2 t5.1)
def darningref4_Fits.j4 (x0 : Sl) (t5 : Sl × Int) (it5 : (Sl × Int) → AH → Prop) (o7 : Nat) (Hs2 : AH) (x24 : Bool) : Prop :=
  bcase x24 (it5 (t5.1, (IntKind.wrap .i64 (t5.2 + (1 : Int)))) Hs2) (bcase (decide ((((t5.1.n : Nat) : Int) : Int) > (0 : Int))) ((0 ≤ (0 : Int) ∧ (0 : Int) < ((t5.1.n : Nat) : Int)) ∧ onPtr t5.1.a fun a31 => elI .i64 (AH.cell? Hs2 (Addr.add a31 (Int.toNat (0 : Int) * 1))) fun n32 => (0 ≤ n32 ∧ n32 < ((x0.n : Nat) : Int)) ∧ onPtr x0.a fun a33 => elI .i64 (AH.cell? Hs2 (Addr.add (Addr.add a33 (Int.toNat n32 * 3)) 1)) fun n35 => elI .i64 (AH.cell? Hs2 (Addr.add ⟨o7, 0, none⟩ 1)) fun n37 => darningref4_Fits.j3 x0 t5 it5 o7 Hs2 (decide ((n35 : Int) > n37))) (darningref4_Fits.j3 x0 t5 it5 o7 Hs2 false))
def darningref4_Fits.l5 (x0 : Sl) (x1 : Int) (k : Sl → AH → Prop) (t5 : Sl × Int) (HL5 : AH) (it5 : (Sl × Int) → AH → Prop) : Prop :=
  bcase (decide ((t5.2 : Int) < ((x0.n : Nat) : Int))) ((0 ≤ t5.2 ∧ t5.2 < ((x0.n : Nat) : Int)) ∧ onPtr x0.a fun a15 => ldA HL5 (Addr.add a15 (Int.toNat t5.2 * 3)) 3 fun c16 => newC HL5 ⟨[(Value.int .i64 (0 : Int)), (Value.int .i64 (0 : Int)), (Value.bool false)], .rw, 0⟩ fun o7 H7 => (List.length c16 = 3 ∧ List.all c16 cellOK = true) ∧ stC H7 ⟨o7, 0, none⟩ c16 fun Hs2 => elB (AH.cell? Hs2 (Addr.add ⟨o7, 0, none⟩ 2)) fun b18 => bcase b18 (darningref4_Fits.j4 x0 t5 it5 o7 Hs2 true) (elI .i64 (AH.cell? Hs2 (Addr.add ⟨o7, 0, none⟩ 1)) fun n21 => darningref4_Fits.j4 x0 t5 it5 o7 Hs2 (decide ((n21 : Int) < x1)))) (k t5.1 HL5)
def darningref4_Fits.b (x0 : Sl) (x1 : Int) (H : AH) (k : Sl → AH → Prop) : Prop :=
  bcase (decide ((x1 : Int) < (2 : Int))) (k ⟨none, 0, 0⟩ H) (loopT (darningref4_Fits.l5 x0 x1 k) ((⟨none, 0, 0⟩, (0 : Int)) : Sl × Int) H)
def darningref4_Fits.ann : Ann := { keep := fun r => match r with | 5 => [(5, .sl), (12, .int .i64)] | _ => [], ord := fun r => match r with | 8 => [0, 1, 2, 3, 4, 5, 6, 7, 8, 9, 10, 11, 12, 13, 14] | 10 => [0, 1, 2, 3, 4, 5, 6, 7, 8, 9, 10, 11, 12, 13, 14] | _ => [] }
theorem darningref4_Fits.link {x0 : Sl} {x1 : Int} {H : AH} {k : Sl → AH → Prop} (h : darningref4_Fits.b x0 x1 H k) : darningref4_Fits x0 x1 H k := by
  have e : wpC Try.prog T pan Try.f95.ntmps darningref4_Fits.ann (Try.f95.body.getD .skip) (argFr [(Sl.val x0), (Value.int .i64 x1)]) H (bodyK T Try.f95.results.toList fun e H' => out1 .sl e noPan (fun r0 => k r0 H')) = darningref4_Fits.b x0 x1 H k := by kernel_rfl
  have h1 : LCalls Try.prog 95 [(Sl.val x0), (Value.int .i64 x1)] H (fun e H' => out1 .sl e noPan (fun r0 => k r0 H')) := lcalls_of hT hm Try.func95 (by kernel_rfl) darningref4_Fits.ann (Nat.le_of_ble_eq_true (by kernel_rfl)) (e.mpr h)
  exact h1.mono fun _ _ hq => out1_in (fun h => by cases h) hq

def darningref4_Off.j1 (k : Int → AH → Prop) (o1 : Nat) (H1 : AH) (x10 : Bool) : Prop :=
  bcase x10 (k (0 : Int) H1) (elI .i64 (AH.cell? H1 (Addr.add ⟨o1, 0, none⟩ 0)) fun n12 => k (IntKind.wrap .i64 ((IntKind.wrap .i64 (n12 + (1 : Int))) * (8 : Int))) H1)
def darningref4_Off.b (x0 : List Value) (H : AH) (k : Int → AH → Prop) : Prop :=
  newC H ⟨x0, .rw, 0⟩ fun o1 H1 => elI .i64 (AH.cell? H1 (Addr.add ⟨o1, 0, none⟩ 0)) fun n4 => bcase (decide ((n4 : Int) < (0 : Int))) (darningref4_Off.j1 k o1 H1 true) (elI .i64 (AH.cell? H1 (Addr.add ⟨o1, 0, none⟩ 0)) fun n8 => darningref4_Off.j1 k o1 H1 (decide ((n8 : Int) > (512 : Int))))
def darningref4_Off.ann : Ann := { keep := fun r => match r with  | _ => [], ord := fun r => match r with  | _ => [] }
theorem darningref4_Off.link {x0 : List Value} {H : AH} {k : Int → AH → Prop} (h : darningref4_Off.b x0 H k) : darningref4_Off x0 H k := by
  have e : wpC Try.prog T pan Try.f75.ntmps darningref4_Off.ann (Try.f75.body.getD .skip) (argFr [(Value.agg (List.toArray x0))]) H (bodyK T Try.f75.results.toList fun e H' => out1 (.int .i64) e noPan (fun r0 => k r0 H')) = darningref4_Off.b x0 H k := by kernel_rfl
  have h1 : LCalls Try.prog 75 [(Value.agg (List.toArray x0))] H (fun e H' => out1 (.int .i64) e noPan (fun r0 => k r0 H')) := lcalls_of hT hm Try.func75 (by kernel_rfl) darningref4_Off.ann (Nat.le_of_ble_eq_true (by kernel_rfl)) (e.mpr h)
  exact h1.mono fun _ _ hq => out1_in (fun h => by cases h) hq

def darningref4_Model_Fits.l1 (k : Sl → AH → Prop) (s10 : Sl) (s14 : Sl) (t4 : Sl × Int) (HL4 : AH) (it4 : (Sl × Int) → AH → Prop) : Prop :=
  bcase (decide ((t4.2 : Int) < ((s14.n : Nat) : Int))) ((0 ≤ t4.2 ∧ t4.2 < ((s14.n : Nat) : Int)) ∧ onPtr s14.a fun a18 => elI .i64 (AH.cell? HL4 (Addr.add a18 (Int.toNat t4.2 * 1))) fun n19 => (0 ≤ n19 ∧ n19 < ((s10.n : Nat) : Int)) ∧ onPtr s10.a fun a23 => ldA HL4 (Addr.add a23 (Int.toNat n19 * 3)) 3 fun c24 => darningref4_Off c24 HL4 fun n25 H25 => newC H25 ⟨[(Value.int .i64 n25)], .rw, 1⟩ fun o26 H26 => appendC 1 H26 t4.1 ⟨(some ⟨o26, 0, none⟩), 1, 1⟩ fun s27 H27 => it4 (s27, (IntKind.wrap .i64 (t4.2 + (1 : Int)))) H27) (k t4.1 HL4)
def darningref4_Model_Fits.b (x0 : Option Addr) (x1 : Int) (H : AH) (k : Sl → AH → Prop) : Prop :=
  darningref4_Model_Blocks x0 H fun s10 H10 => darningref4_Need x1 H10 fun n13 H13 => darningref4_Fits s10 n13 H13 fun s14 H14 => loopT (darningref4_Model_Fits.l1 k s10 s14) ((⟨none, 0, 0⟩, (0 : Int)) : Sl × Int) H14
def darningref4_Model_Fits.ann : Ann := { keep := fun r => match r with | 4 => [(6, .sl), (16, .int .i64)] | _ => [], ord := fun r => match r with  | _ => [] }
theorem darningref4_Model_Fits.link {x0 : Option Addr} {x1 : Int} {H : AH} {k : Sl → AH → Prop} (h : darningref4_Model_Fits.b x0 x1 H k) : darningref4_Model_Fits x0 x1 H k := by
  have e : wpC Try.prog T pan Try.f69.ntmps darningref4_Model_Fits.ann (Try.f69.body.getD .skip) (argFr [(Value.pointer x0), (Value.int .i64 x1)]) H (bodyK T Try.f69.results.toList fun e H' => out1 .sl e noPan (fun r0 => k r0 H')) = darningref4_Model_Fits.b x0 x1 H k := by kernel_rfl
  have h1 : LCalls Try.prog 69 [(Value.pointer x0), (Value.int .i64 x1)] H (fun e H' => out1 .sl e noPan (fun r0 => k r0 H')) := lcalls_of hT hm Try.func69 (by kernel_rfl) darningref4_Model_Fits.ann (Nat.le_of_ble_eq_true (by kernel_rfl)) (e.mpr h)
  exact h1.mono fun _ _ hq => out1_in (fun h => by cases h) hq

def darningref1_Ints.l1 (x0 : Sl) (x1 : Sl) (k : Bool → AH → Prop) (t4 : Bool × Int) (HL4 : AH) (it4 : (Bool × Int) → AH → Prop) : Prop :=
  bcase (decide ((t4.2 : Int) < ((x0.n : Nat) : Int))) ((0 ≤ t4.2 ∧ t4.2 < ((x0.n : Nat) : Int)) ∧ onPtr x0.a fun a18 => elI .i64 (AH.cell? HL4 (Addr.add a18 (Int.toNat t4.2 * 1))) fun n19 => (0 ≤ t4.2 ∧ t4.2 < ((x1.n : Nat) : Int)) ∧ onPtr x1.a fun a22 => elI .i64 (AH.cell? HL4 (Addr.add a22 (Int.toNat t4.2 * 1))) fun n23 => bcase ((n19 : Int) != n23) (k false HL4) (it4 (t4.1, (IntKind.wrap .i64 (t4.2 + (1 : Int)))) HL4)) (k true HL4)
def darningref1_Ints.b (x0 : Sl) (x1 : Sl) (H : AH) (k : Bool → AH → Prop) : Prop :=
  bcase ((((x0.n : Nat) : Int) : Int) != ((x1.n : Nat) : Int)) (k false H) (loopT (darningref1_Ints.l1 x0 x1 k) ((false, (0 : Int)) : Bool × Int) H)
def darningref1_Ints.ann : Ann := { keep := fun r => match r with | 4 => [(4, .bool), (13, .int .i64)] | _ => [], ord := fun r => match r with | 6 => [0, 1, 2, 3, 4, 5, 6, 7, 8] | _ => [] }
theorem darningref1_Ints.link {x0 : Sl} {x1 : Sl} {H : AH} {k : Bool → AH → Prop} (h : darningref1_Ints.b x0 x1 H k) : darningref1_Ints x0 x1 H k := by
  have e : wpC Try.prog T pan Try.f51.ntmps darningref1_Ints.ann (Try.f51.body.getD .skip) (argFr [(Sl.val x0), (Sl.val x1)]) H (bodyK T Try.f51.results.toList fun e H' => out1 .bool e noPan (fun r0 => k r0 H')) = darningref1_Ints.b x0 x1 H k := by kernel_rfl
  have h1 : LCalls Try.prog 51 [(Sl.val x0), (Sl.val x1)] H (fun e H' => out1 .bool e noPan (fun r0 => k r0 H')) := lcalls_of hT hm Try.func51 (by kernel_rfl) darningref1_Ints.ann (Nat.le_of_ble_eq_true (by kernel_rfl)) (e.mpr h)
  exact h1.mono fun _ _ hq => out1_in (fun h => by cases h) hq

def darningref4_sizes.j1 (k : Int → AH → Prop) (t3 : Int × Int × Int) (it3 : (Int × Int × Int) → AH → Prop) (o5 : Nat) (Hs2 : AH) (x19 : Bool) : Prop :=
  bcase x19 (k (0 : Int) Hs2) (elI .i64 (AH.cell? Hs2 (Addr.add ⟨o5, 0, none⟩ 1)) fun n22 => it3 (t3.1, (IntKind.wrap .i64 (t3.2.1 + n22)), (IntKind.wrap .i64 (t3.2.2 + (1 : Int)))) Hs2)
def darningref4_sizes.l2 (x0 : Sl) (k : Int → AH → Prop) (t3 : Int × Int × Int) (HL3 : AH) (it3 : (Int × Int × Int) → AH → Prop) : Prop :=
  bcase (decide ((t3.2.2 : Int) < ((x0.n : Nat) : Int))) ((0 ≤ t3.2.2 ∧ t3.2.2 < ((x0.n : Nat) : Int)) ∧ onPtr x0.a fun a10 => ldA HL3 (Addr.add a10 (Int.toNat t3.2.2 * 3)) 3 fun c11 => newC HL3 ⟨[(Value.int .i64 (0 : Int)), (Value.int .i64 (0 : Int)), (Value.bool false)], .rw, 0⟩ fun o5 H5 => (List.length c11 = 3 ∧ List.all c11 cellOK = true) ∧ stC H5 ⟨o5, 0, none⟩ c11 fun Hs2 => elI .i64 (AH.cell? Hs2 (Addr.add ⟨o5, 0, none⟩ 1)) fun n13 => bcase (decide ((n13 : Int) < (0 : Int))) (darningref4_sizes.j1 k t3 it3 o5 Hs2 true) (elI .i64 (AH.cell? Hs2 (Addr.add ⟨o5, 0, none⟩ 1)) fun n17 => darningref4_sizes.j1 k t3 it3 o5 Hs2 (decide ((n17 : Int) > (1000 : Int))))) (k t3.2.1 HL3)
def darningref4_sizes.b (x0 : Sl) (H : AH) (k : Int → AH → Prop) : Prop :=
  loopT (darningref4_sizes.l2 x0 k) (((0 : Int), (0 : Int), (0 : Int)) : Int × Int × Int) H
def darningref4_sizes.ann : Ann := { keep := fun r => match r with | 3 => [(2, .int .i64), (3, .int .i64), (8, .int .i64)] | _ => [], ord := fun r => match r with  | _ => [] }
theorem darningref4_sizes.link {x0 : Sl} {H : AH} {k : Int → AH → Prop} (h : darningref4_sizes.b x0 H k) : darningref4_sizes x0 H k := by
  have e : wpC Try.prog T pan Try.f126.ntmps darningref4_sizes.ann (Try.f126.body.getD .skip) (argFr [(Sl.val x0)]) H (bodyK T Try.f126.results.toList fun e H' => out1 (.int .i64) e noPan (fun r0 => k r0 H')) = darningref4_sizes.b x0 H k := by kernel_rfl
  have h1 : LCalls Try.prog 126 [(Sl.val x0)] H (fun e H' => out1 (.int .i64) e noPan (fun r0 => k r0 H')) := lcalls_of hT hm Try.func126 (by kernel_rfl) darningref4_sizes.ann (Nat.le_of_ble_eq_true (by kernel_rfl)) (e.mpr h)
  exact h1.mono fun _ _ hq => out1_in (fun h => by cases h) hq

def darningref4_Takes.j1 (x0 : Int) (x1 : Int) (H : AH) (k : Int → AH → Prop) (x5 : Bool) : Prop :=
  bcase x5 (k (0 : Int) H) (bcase (decide (((IntKind.wrap .i64 (x0 - x1)) : Int) < (2 : Int))) (k x0 H) (k x1 H))
def darningref4_Takes.b (x0 : Int) (x1 : Int) (H : AH) (k : Int → AH → Prop) : Prop :=
  bcase (decide ((x1 : Int) < (2 : Int))) (darningref4_Takes.j1 x0 x1 H k true) (darningref4_Takes.j1 x0 x1 H k (decide ((x1 : Int) > x0)))
def darningref4_Takes.ann : Ann := { keep := fun r => match r with  | _ => [], ord := fun r => match r with  | _ => [] }
theorem darningref4_Takes.link {x0 : Int} {x1 : Int} {H : AH} {k : Int → AH → Prop} (h : darningref4_Takes.b x0 x1 H k) : darningref4_Takes x0 x1 H k := by
  have e : wpC Try.prog T pan Try.f111.ntmps darningref4_Takes.ann (Try.f111.body.getD .skip) (argFr [(Value.int .i64 x0), (Value.int .i64 x1)]) H (bodyK T Try.f111.results.toList fun e H' => out1 (.int .i64) e noPan (fun r0 => k r0 H')) = darningref4_Takes.b x0 x1 H k := by kernel_rfl
  have h1 : LCalls Try.prog 111 [(Value.int .i64 x0), (Value.int .i64 x1)] H (fun e H' => out1 (.int .i64) e noPan (fun r0 => k r0 H')) := lcalls_of hT hm Try.func111 (by kernel_rfl) darningref4_Takes.ann (Nat.le_of_ble_eq_true (by kernel_rfl)) (e.mpr h)
  exact h1.mono fun _ _ hq => out1_in (fun h => by cases h) hq

def darningref4_Carved.j1 (x0 : Sl) (x1 : Int) (k : Sl → Bool → AH → Prop) (x9 : Sl) (Hj : AH) : Prop :=
  (0 ≤ (IntKind.wrap .i64 (x1 + (1 : Int))) ∧ (IntKind.wrap .i64 (x1 + (1 : Int))) ≤ ((x0.n : Nat) : Int)) ∧ appendC 3 Hj x9 ⟨(Option.map (fun x => Addr.add x (Int.toNat (IntKind.wrap .i64 (x1 + (1 : Int))) * 3)) x0.a), (x0.n - Int.toNat (IntKind.wrap .i64 (x1 + (1 : Int)))), 0⟩ fun s92 H92 => k s92 true H92
def darningref4_Carved.j2 (x0 : Sl) (x1 : Int) (x2 : Int) (k : Sl → Bool → AH → Prop) (x41 : Bool) (Hj : AH) : Prop :=
  bcase x41 (k ⟨none, 0, 0⟩ false Hj) ((0 ≤ x1 ∧ x1 < ((x0.n : Nat) : Int)) ∧ onPtr x0.a fun a44 => elI .i64 (AH.cell? Hj (Addr.add (Addr.add a44 (Int.toNat x1 * 3)) 1)) fun n46 => darningref4_Takes n46 x2 Hj fun n48 H48 => (0 ≤ x1 ∧ x1 ≤ ((x0.n : Nat) : Int)) ∧ (0 ≤ x1 ∧ x1 < ((x0.n : Nat) : Int)) ∧ onPtr x0.a fun a55 => elI .i64 (AH.cell? H48 (Addr.add (Addr.add a55 (Int.toNat x1 * 3)) 0)) fun n57 => (List.length [(Value.int .i64 n57), (Value.int .i64 n48), (Value.bool true)] = 3) ∧ newC H48 ⟨[(Value.int .i64 n57), (Value.int .i64 n48), (Value.bool true)], .rw, 3⟩ fun o60 H60 => appendC 3 H60 ⟨none, 0, 0⟩ ⟨x0.a, (Int.toNat x1), 0⟩ fun s52 H52 => AH.cell? H52 (Addr.add (Addr.add a55 (Int.toNat x1 * 3)) 0) = some (Value.int .i64 n57) ∧ appendC 3 H52 s52 ⟨(some ⟨o60, 0, none⟩), 1, 1⟩ fun s61 H61 => (0 ≤ x1 ∧ x1 < ((x0.n : Nat) : Int)) ∧ onPtr x0.a fun a65 => elI .i64 (AH.cell? H61 (Addr.add (Addr.add a65 (Int.toNat x1 * 3)) 1)) fun n67 => bcase (decide ((n48 : Int) < n67)) ((0 ≤ x1 ∧ x1 < ((x0.n : Nat) : Int)) ∧ onPtr x0.a fun a72 => elI .i64 (AH.cell? H61 (Addr.add (Addr.add a72 (Int.toNat x1 * 3)) 0)) fun n74 => (0 ≤ x1 ∧ x1 < ((x0.n : Nat) : Int)) ∧ onPtr x0.a fun a79 => elI .i64 (AH.cell? H61 (Addr.add (Addr.add a79 (Int.toNat x1 * 3)) 1)) fun n81 => (List.length [(Value.int .i64 (IntKind.wrap .i64 (n74 + n48))), (Value.int .i64 (IntKind.wrap .i64 (n81 - n48))), (Value.bool false)] = 3) ∧ newC H61 ⟨[(Value.int .i64 (IntKind.wrap .i64 (n74 + n48))), (Value.int .i64 (IntKind.wrap .i64 (n81 - n48))), (Value.bool false)], .rw, 3⟩ fun o85 H85 => appendC 3 H85 s61 ⟨(some ⟨o85, 0, none⟩), 1, 1⟩ fun s86 H86 => darningref4_Carved.j1 x0 x1 k s86 H86) (darningref4_Carved.j1 x0 x1 k s61 H61))
def darningref4_Carved.b (x0 : Sl) (x1 : Int) (x2 : Int) (H : AH) (k : Sl → Bool → AH → Prop) : Prop :=
  darningref4_sizes x0 H fun n12 H12 => darningref4_MayBlocks x0 n12 H12 fun b13 H13 => bcase (!b13) (darningref4_Carved.j2 x0 x1 x2 k true H13) (bcase (decide ((x1 : Int) < (0 : Int))) (darningref4_Carved.j2 x0 x1 x2 k true H13) (bcase (decide ((x1 : Int) ≥ ((x0.n : Nat) : Int))) (darningref4_Carved.j2 x0 x1 x2 k true H13) ((0 ≤ x1 ∧ x1 < ((x0.n : Nat) : Int)) ∧ onPtr x0.a fun a28 => elB (AH.cell? H13 (Addr.add (Addr.add a28 (Int.toNat x1 * 3)) 2)) fun b30 => bcase b30 (darningref4_Carved.j2 x0 x1 x2 k true H13) ((0 ≤ x1 ∧ x1 < ((x0.n : Nat) : Int)) ∧ onPtr x0.a fun a35 => elI .i64 (AH.cell? H13 (Addr.add (Addr.add a35 (Int.toNat x1 * 3)) 1)) fun n37 => darningref4_Takes n37 x2 H13 fun n39 H39 => darningref4_Carved.j2 x0 x1 x2 k ((n39 : Int) == (0 : Int)) H39))))
def darningref4_Carved.ann : Ann := { keep := fun r => match r with  | _ => [], ord := fun r => match r with | 4 => [0, 1, 2, 4, 5, 6, 7, 8, 9, 10, 11, 3, 12, 13] | 6 => [0, 1, 2, 3, 4, 5, 6, 7, 8, 9, 10, 11, 12, 13, 14, 15, 16, 17, 18] | _ => [] }
theorem darningref4_Carved.link {x0 : Sl} {x1 : Int} {x2 : Int} {H : AH} {k : Sl → Bool → AH → Prop} (h : darningref4_Carved.b x0 x1 x2 H k) : darningref4_Carved x0 x1 x2 H k := by
  have e : wpC Try.prog T pan Try.f110.ntmps darningref4_Carved.ann (Try.f110.body.getD .skip) (argFr [(Sl.val x0), (Value.int .i64 x1), (Value.int .i64 x2)]) H (bodyK T Try.f110.results.toList fun e H' => out2 .sl .bool e noPan (fun r0 r1 => k r0 r1 H')) = darningref4_Carved.b x0 x1 x2 H k := by kernel_rfl
  have h1 : LCalls Try.prog 110 [(Sl.val x0), (Value.int .i64 x1), (Value.int .i64 x2)] H (fun e H' => out2 .sl .bool e noPan (fun r0 r1 => k r0 r1 H')) := lcalls_of hT hm Try.func110 (by kernel_rfl) darningref4_Carved.ann (Nat.le_of_ble_eq_true (by kernel_rfl)) (e.mpr h)
  exact h1.mono fun _ _ hq => out2_in (fun h => by cases h) (fun h => by cases h) hq

def darningref4_CarveEdits.j1 (x0 : Sl) (x1 : Int) (k : Sl → AH → Prop) (n27 : Int) (t7 : Sl × Int) (HL7 : AH) : Prop :=
  (0 ≤ x1 ∧ x1 < ((x0.n : Nat) : Int)) ∧ onPtr x0.a fun a56 => elI .i64 (AH.cell? HL7 (Addr.add (Addr.add a56 (Int.toNat x1 * 3)) 1)) fun n58 => bcase (decide ((n27 : Int) < n58)) ((0 ≤ x1 ∧ x1 < ((x0.n : Nat) : Int)) ∧ onPtr x0.a fun a63 => elI .i64 (AH.cell? HL7 (Addr.add (Addr.add a63 (Int.toNat x1 * 3)) 0)) fun n65 => (0 ≤ x1 ∧ x1 < ((x0.n : Nat) : Int)) ∧ onPtr x0.a fun a70 => elI .i64 (AH.cell? HL7 (Addr.add (Addr.add a70 (Int.toNat x1 * 3)) 1)) fun n72 => darningref4_Word (IntKind.wrap .i64 (n72 - n27)) false HL7 fun n75 H75 => AH.cell? H75 (Addr.add (Addr.add a63 (Int.toNat x1 * 3)) 0) = some (Value.int .i64 n65) ∧ (List.length [(Value.int .i64 (IntKind.wrap .i64 (n65 + n27))), (Value.int .u64 n75)] = 2) ∧ newC H75 ⟨[(Value.int .i64 (IntKind.wrap .i64 (n65 + n27))), (Value.int .u64 n75)], .rw, 2⟩ fun o77 H77 => appendC 2 H77 t7.1 ⟨(some ⟨o77, 0, none⟩), 1, 1⟩ fun s78 H78 => k s78 H78) (k t7.1 HL7)
def darningref4_CarveEdits.l2 (x0 : Sl) (x1 : Int) (k : Sl → AH → Prop) (n27 : Int) (t7 : Sl × Int) (HL7 : AH) (it7 : (Sl × Int) → AH → Prop) : Prop :=
  bcase (decide ((t7.2 : Int) < n27)) ((0 ≤ x1 ∧ x1 < ((x0.n : Nat) : Int)) ∧ onPtr x0.a fun a45 => elI .i64 (AH.cell? HL7 (Addr.add (Addr.add a45 (Int.toNat x1 * 3)) 0)) fun n47 => (List.length [(Value.int .i64 (IntKind.wrap .i64 (n47 + t7.2))), (Value.int .u64 (0 : Int))] = 2) ∧ newC HL7 ⟨[(Value.int .i64 (IntKind.wrap .i64 (n47 + t7.2))), (Value.int .u64 (0 : Int))], .rw, 2⟩ fun o51 H51 => appendC 2 H51 t7.1 ⟨(some ⟨o51, 0, none⟩), 1, 1⟩ fun s52 H52 => it7 (s52, (IntKind.wrap .i64 (t7.2 + (1 : Int)))) H52) (darningref4_CarveEdits.j1 x0 x1 k n27 t7 HL7)
def darningref4_CarveEdits.b (x0 : Sl) (x1 : Int) (x2 : Int) (H : AH) (k : Sl → AH → Prop) : Prop :=
  darningref4_Carved x0 x1 x2 H fun s16a b16b H16 => bcase (!b16b) (k ⟨none, 0, 0⟩ H16) ((0 ≤ x1 ∧ x1 < ((x0.n : Nat) : Int)) ∧ onPtr x0.a fun a23 => elI .i64 (AH.cell? H16 (Addr.add (Addr.add a23 (Int.toNat x1 * 3)) 1)) fun n25 => darningref4_Takes n25 x2 H16 fun n27 H27 => (0 ≤ x1 ∧ x1 < ((x0.n : Nat) : Int)) ∧ onPtr x0.a fun a30 => elI .i64 (AH.cell? H27 (Addr.add (Addr.add a30 (Int.toNat x1 * 3)) 0)) fun n32 => darningref4_Word n27 true H27 fun n34 H34 => AH.cell? H34 (Addr.add (Addr.add a30 (Int.toNat x1 * 3)) 0) = some (Value.int .i64 n32) ∧ (List.length [(Value.int .i64 n32), (Value.int .u64 n34)] = 2) ∧ newC H34 ⟨[(Value.int .i64 n32), (Value.int .u64 n34)], .rw, 2⟩ fun o36 H36 => loopT (darningref4_CarveEdits.l2 x0 x1 k n27) ((⟨(some ⟨o36, 0, none⟩), 1, 1⟩, (1 : Int)) : Sl × Int) H36)
def darningref4_CarveEdits.ann : Ann := { keep := fun r => match r with | 7 => [(10, .sl), (11, .int .i64)] | _ => [], ord := fun r => match r with | 5 => [0, 1, 2, 3, 4, 5, 6, 7, 8, 9] | 11 => [0, 1, 2, 3, 4, 5, 6, 7, 8, 9, 10, 11, 12, 13, 14, 15, 16, 17, 18, 19] | _ => [] }
theorem darningref4_CarveEdits.link {x0 : Sl} {x1 : Int} {x2 : Int} {H : AH} {k : Sl → AH → Prop} (h : darningref4_CarveEdits.b x0 x1 x2 H k) : darningref4_CarveEdits x0 x1 x2 H k := by
  have e : wpC Try.prog T pan Try.f96.ntmps darningref4_CarveEdits.ann (Try.f96.body.getD .skip) (argFr [(Sl.val x0), (Value.int .i64 x1), (Value.int .i64 x2)]) H (bodyK T Try.f96.results.toList fun e H' => out1 .sl e noPan (fun r0 => k r0 H')) = darningref4_CarveEdits.b x0 x1 x2 H k := by kernel_rfl
  have h1 : LCalls Try.prog 96 [(Sl.val x0), (Value.int .i64 x1), (Value.int .i64 x2)] H (fun e H' => out1 .sl e noPan (fun r0 => k r0 H')) := lcalls_of hT hm Try.func96 (by kernel_rfl) darningref4_CarveEdits.ann (Nat.le_of_ble_eq_true (by kernel_rfl)) (e.mpr h)
  exact h1.mono fun _ _ hq => out1_in (fun h => by cases h) hq

def darningref4_Apply.j1 (s9 : Sl) (t3 : Int) (it3 : (Int) → AH → Prop) (o7 : Nat) (Hs2 : AH) (x25 : Bool) : Prop :=
  bcase x25 (elI .i64 (AH.cell? Hs2 (Addr.add ⟨o7, 0, none⟩ 0)) fun n28 => elI .u64 (AH.cell? Hs2 (Addr.add ⟨o7, 0, none⟩ 1)) fun n30 => (0 ≤ n28 ∧ n28 < ((s9.n : Nat) : Int)) ∧ onPtr s9.a fun a31 => stC Hs2 (Addr.add a31 (Int.toNat n28 * 1)) [(Value.int .u64 n30)] fun Hs4 => it3 (IntKind.wrap .i64 (t3 + (1 : Int))) Hs4) (it3 (IntKind.wrap .i64 (t3 + (1 : Int))) Hs2)
def darningref4_Apply.l2 (x1 : Sl) (k : Sl → AH → Prop) (s9 : Sl) (t3 : Int) (HL3 : AH) (it3 : (Int) → AH → Prop) : Prop :=
  bcase (decide ((t3 : Int) < ((x1.n : Nat) : Int))) ((0 ≤ t3 ∧ t3 < ((x1.n : Nat) : Int)) ∧ onPtr x1.a fun a14 => ldA HL3 (Addr.add a14 (Int.toNat t3 * 2)) 2 fun c15 => newC HL3 ⟨[(Value.int .i64 (0 : Int)), (Value.int .u64 (0 : Int))], .rw, 0⟩ fun o7 H7 => (List.length c15 = 2 ∧ List.all c15 cellOK = true) ∧ stC H7 ⟨o7, 0, none⟩ c15 fun Hs2 => elI .i64 (AH.cell? Hs2 (Addr.add ⟨o7, 0, none⟩ 0)) fun n17 => bcase (decide ((n17 : Int) ≥ (0 : Int))) (elI .i64 (AH.cell? Hs2 (Addr.add ⟨o7, 0, none⟩ 0)) fun n21 => darningref4_Apply.j1 s9 t3 it3 o7 Hs2 (decide ((n21 : Int) < ((s9.n : Nat) : Int)))) (darningref4_Apply.j1 s9 t3 it3 o7 Hs2 false)) (k s9 HL3)
def darningref4_Apply.b (x0 : Sl) (x1 : Sl) (H : AH) (k : Sl → AH → Prop) : Prop :=
  appendC 1 H ⟨none, 0, 0⟩ x0 fun s9 H9 => loopT (darningref4_Apply.l2 x1 k s9) (((0 : Int)) : Int) H9
def darningref4_Apply.ann : Ann := { keep := fun r => match r with | 3 => [(12, .int .i64)] | _ => [], ord := fun r => match r with  | _ => [] }
theorem darningref4_Apply.link {x0 : Sl} {x1 : Sl} {H : AH} {k : Sl → AH → Prop} (h : darningref4_Apply.b x0 x1 H k) : darningref4_Apply x0 x1 H k := by
  have e : wpC Try.prog T pan Try.f50.ntmps darningref4_Apply.ann (Try.f50.body.getD .skip) (argFr [(Sl.val x0), (Sl.val x1)]) H (bodyK T Try.f50.results.toList fun e H' => out1 .sl e noPan (fun r0 => k r0 H')) = darningref4_Apply.b x0 x1 H k := by kernel_rfl
  have h1 : LCalls Try.prog 50 [(Sl.val x0), (Sl.val x1)] H (fun e H' => out1 .sl e noPan (fun r0 => k r0 H')) := lcalls_of hT hm Try.func50 (by kernel_rfl) darningref4_Apply.ann (Nat.le_of_ble_eq_true (by kernel_rfl)) (e.mpr h)
  exact h1.mono fun _ _ hq => out1_in (fun h => by cases h) hq

def darningref4_Model_Alloc.l1 (x0 : Option Addr) (x1 : Int) (x2 : Int) (k : Bool → AH → Prop) (s11 : Sl) (s15 : Sl) (t3 : Bool × Int) (HL3 : AH) (it3 : (Bool × Int) → AH → Prop) : Prop :=
  bcase (decide ((t3.2 : Int) < ((s15.n : Nat) : Int))) ((0 ≤ t3.2 ∧ t3.2 < ((s15.n : Nat) : Int)) ∧ onPtr s15.a fun a19 => elI .i64 (AH.cell? HL3 (Addr.add a19 (Int.toNat t3.2 * 1))) fun n20 => (0 ≤ n20 ∧ n20 < ((s11.n : Nat) : Int)) ∧ onPtr s11.a fun a23 => ldA HL3 (Addr.add a23 (Int.toNat n20 * 3)) 3 fun c24 => darningref4_Off c24 HL3 fun n25 H25 => bcase ((n25 : Int) == x2) (onPtr x0 fun a30 => elL (AH.cell? H25 (Addr.add a30 0)) fun s32 => darningref4_Need x1 H25 fun n36 H36 => AH.cell? H36 (Addr.add a30 0) = some (Sl.val s32) ∧ darningref4_CarveEdits s11 n20 n36 H36 fun s37 H37 => AH.cell? H37 (Addr.add a30 0) = some (Sl.val s32) ∧ darningref4_Apply s32 s37 H37 fun s38 H38 => onPtr x0 fun a39 => stC H38 (Addr.add a39 0) [(Sl.val s38)] fun Hs2 => k true Hs2) (it3 (t3.1, (IntKind.wrap .i64 (t3.2 + (1 : Int)))) H25)) (k false HL3)
def darningref4_Model_Alloc.b (x0 : Option Addr) (x1 : Int) (x2 : Int) (H : AH) (k : Bool → AH → Prop) : Prop :=
  darningref4_Model_Blocks x0 H fun s11 H11 => darningref4_Need x1 H11 fun n14 H14 => darningref4_Fits s11 n14 H14 fun s15 H15 => loopT (darningref4_Model_Alloc.l1 x0 x1 x2 k s11 s15) ((false, (0 : Int)) : Bool × Int) H15
def darningref4_Model_Alloc.ann : Ann := { keep := fun r => match r with | 3 => [(6, .bool), (17, .int .i64)] | _ => [], ord := fun r => match r with | 6 => [0, 1, 2, 3, 4, 5, 6, 7, 8, 9, 10, 11, 12, 13] | _ => [] }
theorem darningref4_Model_Alloc.link {x0 : Option Addr} {x1 : Int} {x2 : Int} {H : AH} {k : Bool → AH → Prop} (h : darningref4_Model_Alloc.b x0 x1 x2 H k) : darningref4_Model_Alloc x0 x1 x2 H k := by
  have e : wpC Try.prog T pan Try.f70.ntmps darningref4_Model_Alloc.ann (Try.f70.body.getD .skip) (argFr [(Value.pointer x0), (Value.int .i64 x1), (Value.int .i64 x2)]) H (bodyK T Try.f70.results.toList fun e H' => out1 .bool e noPan (fun r0 => k r0 H')) = darningref4_Model_Alloc.b x0 x1 x2 H k := by kernel_rfl
  have h1 : LCalls Try.prog 70 [(Value.pointer x0), (Value.int .i64 x1), (Value.int .i64 x2)] H (fun e H' => out1 .bool e noPan (fun r0 => k r0 H')) := lcalls_of hT hm Try.func70 (by kernel_rfl) darningref4_Model_Alloc.ann (Nat.le_of_ble_eq_true (by kernel_rfl)) (e.mpr h)
  exact h1.mono fun _ _ hq => out1_in (fun h => by cases h) hq

def darningref4_Is.l1 (x0 : Sl) (x1 : Int) (k : Int → AH → Prop) (t2 : Int × Int) (HL2 : AH) (it2 : (Int × Int) → AH → Prop) : Prop :=
  bcase (decide ((t2.2 : Int) < ((x0.n : Nat) : Int))) ((0 ≤ t2.2 ∧ t2.2 < ((x0.n : Nat) : Int)) ∧ onPtr x0.a fun a12 => ldA HL2 (Addr.add a12 (Int.toNat t2.2 * 3)) 3 fun c13 => newC HL2 ⟨[(Value.int .i64 (0 : Int)), (Value.int .i64 (0 : Int)), (Value.bool false)], .rw, 0⟩ fun o6 H6 => (List.length c13 = 3 ∧ List.all c13 cellOK = true) ∧ stC H6 ⟨o6, 0, none⟩ c13 fun Hs2 => elB (AH.cell? Hs2 (Addr.add ⟨o6, 0, none⟩ 2)) fun b15 => bcase b15 (ldA Hs2 ⟨o6, 0, none⟩ 3 fun c17 => darningref4_Off c17 Hs2 fun n18 H18 => bcase ((n18 : Int) == x1) (k t2.2 H18) (it2 (t2.1, (IntKind.wrap .i64 (t2.2 + (1 : Int)))) H18)) (it2 (t2.1, (IntKind.wrap .i64 (t2.2 + (1 : Int)))) Hs2)) (k (-1 : Int) HL2)
def darningref4_Is.b (x0 : Sl) (x1 : Int) (H : AH) (k : Int → AH → Prop) : Prop :=
  loopT (darningref4_Is.l1 x0 x1 k) (((0 : Int), (0 : Int)) : Int × Int) H
def darningref4_Is.ann : Ann := { keep := fun r => match r with | 2 => [(4, .int .i64), (9, .int .i64)] | _ => [], ord := fun r => match r with  | _ => [] }
theorem darningref4_Is.link {x0 : Sl} {x1 : Int} {H : AH} {k : Int → AH → Prop} (h : darningref4_Is.b x0 x1 H k) : darningref4_Is x0 x1 H k := by
  have e : wpC Try.prog T pan Try.f99.ntmps darningref4_Is.ann (Try.f99.body.getD .skip) (argFr [(Sl.val x0), (Value.int .i64 x1)]) H (bodyK T Try.f99.results.toList fun e H' => out1 (.int .i64) e noPan (fun r0 => k r0 H')) = darningref4_Is.b x0 x1 H k := by kernel_rfl
  have h1 : LCalls Try.prog 99 [(Sl.val x0), (Value.int .i64 x1)] H (fun e H' => out1 (.int .i64) e noPan (fun r0 => k r0 H')) := lcalls_of hT hm Try.func99 (by kernel_rfl) darningref4_Is.ann (Nat.le_of_ble_eq_true (by kernel_rfl)) (e.mpr h)
  exact h1.mono fun _ _ hq => out1_in (fun h => by cases h) hq

def darningref4_Merged.j1 (x0 : Sl) (k : Sl → Int → Bool → AH → Prop) (x7 : Int) (x8 : Int) (t10 : Int × Int) (HL10 : AH) : Prop :=
  (0 ≤ x7 ∧ x7 ≤ ((x0.n : Nat) : Int)) ∧ (0 ≤ x7 ∧ x7 < ((x0.n : Nat) : Int)) ∧ onPtr x0.a fun a86 => elI .i64 (AH.cell? HL10 (Addr.add (Addr.add a86 (Int.toNat x7 * 3)) 0)) fun n88 => (List.length [(Value.int .i64 n88), (Value.int .i64 t10.1), (Value.bool false)] = 3) ∧ newC HL10 ⟨[(Value.int .i64 n88), (Value.int .i64 t10.1), (Value.bool false)], .rw, 3⟩ fun o91 H91 => appendC 3 H91 ⟨none, 0, 0⟩ ⟨x0.a, (Int.toNat x7), 0⟩ fun s83 H83 => AH.cell? H83 (Addr.add (Addr.add a86 (Int.toNat x7 * 3)) 0) = some (Value.int .i64 n88) ∧ appendC 3 H83 s83 ⟨(some ⟨o91, 0, none⟩), 1, 1⟩ fun s92 H92 => (0 ≤ x8 ∧ x8 ≤ ((x0.n : Nat) : Int)) ∧ appendC 3 H92 s92 ⟨(Option.map (fun x => Addr.add x (Int.toNat x8 * 3)) x0.a), (x0.n - Int.toNat x8), 0⟩ fun s97 H97 => k s97 x7 true H97
def darningref4_Merged.l2 (x0 : Sl) (k : Sl → Int → Bool → AH → Prop) (x7 : Int) (x8 : Int) (t10 : Int × Int) (HL10 : AH) (it10 : (Int × Int) → AH → Prop) : Prop :=
  bcase (decide ((t10.2 : Int) < (((Int.toNat x8 - Int.toNat x7) : Nat) : Int))) ((0 ≤ t10.2 ∧ t10.2 < (((Int.toNat x8 - Int.toNat x7) : Nat) : Int)) ∧ onPtr (Option.map (fun x => Addr.add x (Int.toNat x7 * 3)) x0.a) fun a73 => ldA HL10 (Addr.add a73 (Int.toNat t10.2 * 3)) 3 fun c74 => newC HL10 ⟨[(Value.int .i64 (0 : Int)), (Value.int .i64 (0 : Int)), (Value.bool false)], .rw, 0⟩ fun o11 H11 => (List.length c74 = 3 ∧ List.all c74 cellOK = true) ∧ stC H11 ⟨o11, 0, none⟩ c74 fun Hs2 => elI .i64 (AH.cell? Hs2 (Addr.add ⟨o11, 0, none⟩ 1)) fun n77 => it10 ((IntKind.wrap .i64 (t10.1 + n77)), (IntKind.wrap .i64 (t10.2 + (1 : Int)))) Hs2) (darningref4_Merged.j1 x0 k x7 x8 t10 HL10)
def darningref4_Merged.j3 (x0 : Sl) (k : Sl → Int → Bool → AH → Prop) (H16 : AH) (x7 : Int) (x8 : Int) : Prop :=
  (0 ≤ x7 ∧ x7 ≤ x8 ∧ x8 ≤ ((x0.n : Nat) : Int)) ∧ loopT (darningref4_Merged.l2 x0 k x7 x8) (((0 : Int), (0 : Int)) : Int × Int) H16
def darningref4_Merged.j4 (x0 : Sl) (x1 : Int) (k : Sl → Int → Bool → AH → Prop) (H16 : AH) (x7 : Int) (x63 : Bool) : Prop :=
  bcase x63 (darningref4_Merged.j3 x0 k H16 x7 (IntKind.wrap .i64 ((IntKind.wrap .i64 (x1 + (1 : Int))) + (1 : Int)))) (darningref4_Merged.j3 x0 k H16 x7 (IntKind.wrap .i64 (x1 + (1 : Int))))
def darningref4_Merged.j5 (x0 : Sl) (x1 : Int) (k : Sl → Int → Bool → AH → Prop) (H16 : AH) (x7 : Int) : Prop :=
  bcase (decide (((IntKind.wrap .i64 (x1 + (1 : Int))) : Int) < ((x0.n : Nat) : Int))) ((0 ≤ (IntKind.wrap .i64 (x1 + (1 : Int))) ∧ (IntKind.wrap .i64 (x1 + (1 : Int))) < ((x0.n : Nat) : Int)) ∧ onPtr x0.a fun a59 => elB (AH.cell? H16 (Addr.add (Addr.add a59 (Int.toNat (IntKind.wrap .i64 (x1 + (1 : Int))) * 3)) 2)) fun b61 => darningref4_Merged.j4 x0 x1 k H16 x7 (!b61)) (darningref4_Merged.j4 x0 x1 k H16 x7 false)
def darningref4_Merged.j6 (x0 : Sl) (x1 : Int) (k : Sl → Int → Bool → AH → Prop) (H16 : AH) (x49 : Bool) : Prop :=
  bcase x49 (darningref4_Merged.j5 x0 x1 k H16 (IntKind.wrap .i64 (x1 - (1 : Int)))) (darningref4_Merged.j5 x0 x1 k H16 x1)
def darningref4_Merged.j7 (x0 : Sl) (x1 : Int) (k : Sl → Int → Bool → AH → Prop) (H16 : AH) (x35 : Bool) : Prop :=
  bcase x35 (k ⟨none, 0, 0⟩ (0 : Int) false H16) (bcase (decide ((x1 : Int) > (0 : Int))) ((0 ≤ (IntKind.wrap .i64 (x1 - (1 : Int))) ∧ (IntKind.wrap .i64 (x1 - (1 : Int))) < ((x0.n : Nat) : Int)) ∧ onPtr x0.a fun a45 => elB (AH.cell? H16 (Addr.add (Addr.add a45 (Int.toNat (IntKind.wrap .i64 (x1 - (1 : Int))) * 3)) 2)) fun b47 => darningref4_Merged.j6 x0 x1 k H16 (!b47)) (darningref4_Merged.j6 x0 x1 k H16 false))
def darningref4_Merged.b (x0 : Sl) (x1 : Int) (H : AH) (k : Sl → Int → Bool → AH → Prop) : Prop :=
  darningref4_sizes x0 H fun n15 H15 => darningref4_MayBlocks x0 n15 H15 fun b16 H16 => bcase (!b16) (darningref4_Merged.j7 x0 x1 k H16 true) (bcase (decide ((x1 : Int) < (0 : Int))) (darningref4_Merged.j7 x0 x1 k H16 true) (bcase (decide ((x1 : Int) ≥ ((x0.n : Nat) : Int))) (darningref4_Merged.j7 x0 x1 k H16 true) ((0 ≤ x1 ∧ x1 < ((x0.n : Nat) : Int)) ∧ onPtr x0.a fun a31 => elB (AH.cell? H16 (Addr.add (Addr.add a31 (Int.toNat x1 * 3)) 2)) fun b33 => darningref4_Merged.j7 x0 x1 k H16 (!b33))))
def darningref4_Merged.ann : Ann := { keep := fun r => match r with | 10 => [(9, .int .i64), (71, .int .i64)] | _ => [], ord := fun r => match r with | 14 => [0, 1, 2, 4, 5, 6, 7, 8, 9, 10, 11, 3, 12, 13] | _ => [] }
theorem darningref4_Merged.link {x0 : Sl} {x1 : Int} {H : AH} {k : Sl → Int → Bool → AH → Prop} (h : darningref4_Merged.b x0 x1 H k) : darningref4_Merged x0 x1 H k := by
  have e : wpC Try.prog T pan Try.f112.ntmps darningref4_Merged.ann (Try.f112.body.getD .skip) (argFr [(Sl.val x0), (Value.int .i64 x1)]) H (bodyK T Try.f112.results.toList fun e H' => out3 .sl (.int .i64) .bool e noPan (fun r0 r1 r2 => k r0 r1 r2 H')) = darningref4_Merged.b x0 x1 H k := by kernel_rfl
  have h1 : LCalls Try.prog 112 [(Sl.val x0), (Value.int .i64 x1)] H (fun e H' => out3 .sl (.int .i64) .bool e noPan (fun r0 r1 r2 => k r0 r1 r2 H')) := lcalls_of hT hm Try.func112 (by kernel_rfl) darningref4_Merged.ann (Nat.le_of_ble_eq_true (by kernel_rfl)) (e.mpr h)
  exact h1.mono fun _ _ hq => out3_in (fun h => by cases h) (fun h => by cases h) (fun h => by cases h) hq

def darningref4_ImageFree.b (x0 : Sl) (x1 : Int) (H : AH) (k : Sl → Int → AH → Prop) : Prop :=
  darningref4_Blocks x0 H fun s12a b12b H12 => bcase (!b12b) (k ⟨none, 0, 0⟩ (6 : Int) H12) (darningref4_Is s12a x1 H12 fun n21 H21 => darningref4_Merged s12a n21 H21 fun s22a n22b b22c H22 => bcase (!b22c) (k ⟨none, 0, 0⟩ (1 : Int) H22) ((0 ≤ n22b ∧ n22b < ((s22a.n : Nat) : Int)) ∧ onPtr s22a.a fun a30 => elI .i64 (AH.cell? H22 (Addr.add (Addr.add a30 (Int.toNat n22b * 3)) 0)) fun n32 => (0 ≤ n22b ∧ n22b < ((s22a.n : Nat) : Int)) ∧ onPtr s22a.a fun a35 => elI .i64 (AH.cell? H22 (Addr.add (Addr.add a35 (Int.toNat n22b * 3)) 1)) fun n37 => darningref4_Word n37 false H22 fun n38 H38 => AH.cell? H38 (Addr.add (Addr.add a30 (Int.toNat n22b * 3)) 0) = some (Value.int .i64 n32) ∧ (List.length [(Value.int .i64 n32), (Value.int .u64 n38)] = 2) ∧ newC H38 ⟨[(Value.int .i64 n32), (Value.int .u64 n38)], .rw, 2⟩ fun o40 H40 => k ⟨(some ⟨o40, 0, none⟩), 1, 1⟩ (0 : Int) H40))
def darningref4_ImageFree.ann : Ann := { keep := fun r => match r with  | _ => [], ord := fun r => match r with | 7 => [0, 1, 2, 3, 4, 5, 6, 7, 8, 9, 10, 11, 12, 13, 14] | _ => [] }
theorem darningref4_ImageFree.link {x0 : Sl} {x1 : Int} {H : AH} {k : Sl → Int → AH → Prop} (h : darningref4_ImageFree.b x0 x1 H k) : darningref4_ImageFree x0 x1 H k := by
  have e : wpC Try.prog T pan Try.f97.ntmps darningref4_ImageFree.ann (Try.f97.body.getD .skip) (argFr [(Sl.val x0), (Value.int .i64 x1)]) H (bodyK T Try.f97.results.toList fun e H' => out2 .sl (.int .i64) e noPan (fun r0 r1 => k r0 r1 H')) = darningref4_ImageFree.b x0 x1 H k := by kernel_rfl
  have h1 : LCalls Try.prog 97 [(Sl.val x0), (Value.int .i64 x1)] H (fun e H' => out2 .sl (.int .i64) e noPan (fun r0 r1 => k r0 r1 H')) := lcalls_of hT hm Try.func97 (by kernel_rfl) darningref4_ImageFree.ann (Nat.le_of_ble_eq_true (by kernel_rfl)) (e.mpr h)
  exact h1.mono fun _ _ hq => out2_in (fun h => by cases h) (fun h => by cases h) hq

def darningref4_Model_Free.b (x0 : Option Addr) (x1 : Int) (H : AH) (k : Int → AH → Prop) : Prop :=
  onPtr x0 fun a9 => elL (AH.cell? H (Addr.add a9 0)) fun s11 => darningref4_ImageFree s11 x1 H fun s13a n13b H13 => bcase ((n13b : Int) != (0 : Int)) (k n13b H13) (onPtr x0 fun a22 => elI .i64 (AH.cell? H13 (Addr.add a22 1)) fun n24 => bcase ((n24 : Int) == x1) (k (5 : Int) H13) (onPtr x0 fun a29 => elL (AH.cell? H13 (Addr.add a29 0)) fun s31 => darningref4_Apply s31 s13a H13 fun s33 H33 => onPtr x0 fun a34 => stC H33 (Addr.add a34 0) [(Sl.val s33)] fun Hs2 => k (0 : Int) Hs2))
def darningref4_Model_Free.ann : Ann := { keep := fun r => match r with  | _ => [], ord := fun r => match r with  | _ => [] }
theorem darningref4_Model_Free.link {x0 : Option Addr} {x1 : Int} {H : AH} {k : Int → AH → Prop} (h : darningref4_Model_Free.b x0 x1 H k) : darningref4_Model_Free x0 x1 H k := by
  have e : wpC Try.prog T pan Try.f71.ntmps darningref4_Model_Free.ann (Try.f71.body.getD .skip) (argFr [(Value.pointer x0), (Value.int .i64 x1)]) H (bodyK T Try.f71.results.toList fun e H' => out1 (.int .i64) e noPan (fun r0 => k r0 H')) = darningref4_Model_Free.b x0 x1 H k := by kernel_rfl
  have h1 : LCalls Try.prog 71 [(Value.pointer x0), (Value.int .i64 x1)] H (fun e H' => out1 (.int .i64) e noPan (fun r0 => k r0 H')) := lcalls_of hT hm Try.func71 (by kernel_rfl) darningref4_Model_Free.ann (Nat.le_of_ble_eq_true (by kernel_rfl)) (e.mpr h)
  exact h1.mono fun _ _ hq => out1_in (fun h => by cases h) hq

def darningref4_Within.l1 (x0 : Sl) (x1 : Int) (x2 : Int) (k : Bool → AH → Prop) (t4 : Bool × Int) (HL4 : AH) (it4 : (Bool × Int) → AH → Prop) : Prop :=
  bcase (decide ((t4.2 : Int) < ((x0.n : Nat) : Int))) ((0 ≤ t4.2 ∧ t4.2 < ((x0.n : Nat) : Int)) ∧ onPtr x0.a fun a20 => ldA HL4 (Addr.add a20 (Int.toNat t4.2 * 3)) 3 fun c21 => newC HL4 ⟨[(Value.int .i64 (0 : Int)), (Value.int .i64 (0 : Int)), (Value.bool false)], .rw, 0⟩ fun o8 H8 => (List.length c21 = 3 ∧ List.all c21 cellOK = true) ∧ stC H8 ⟨o8, 0, none⟩ c21 fun Hs2 => elI .i64 (AH.cell? Hs2 (Addr.add ⟨o8, 0, none⟩ 0)) fun n23 => elI .i64 (AH.cell? Hs2 (Addr.add ⟨o8, 0, none⟩ 1)) fun n25 => elB (AH.cell? Hs2 (Addr.add ⟨o8, 0, none⟩ 2)) fun b29 => bcase b29 (ldA Hs2 ⟨o8, 0, none⟩ 3 fun c32 => darningref4_Off c32 Hs2 fun n33 H33 => bcase (decide ((x1 : Int) ≥ n33)) (bcase (decide ((x1 : Int) ≤ (IntKind.wrap .i64 ((IntKind.wrap .i64 (n23 + n25)) * (8 : Int))))) (bcase (decide ((x2 : Int) ≤ (IntKind.wrap .i64 ((IntKind.wrap .i64 ((IntKind.wrap .i64 (n23 + n25)) * (8 : Int))) - x1)))) (k true H33) (it4 (t4.1, (IntKind.wrap .i64 (t4.2 + (1 : Int)))) H33)) (it4 (t4.1, (IntKind.wrap .i64 (t4.2 + (1 : Int)))) H33)) (it4 (t4.1, (IntKind.wrap .i64 (t4.2 + (1 : Int)))) H33)) (it4 (t4.1, (IntKind.wrap .i64 (t4.2 + (1 : Int)))) Hs2)) (k false HL4)
def darningref4_Within.j2 (x0 : Sl) (x1 : Int) (x2 : Int) (H : AH) (k : Bool → AH → Prop) (x15 : Bool) : Prop :=
  bcase x15 (k false H) (loopT (darningref4_Within.l1 x0 x1 x2 k) ((false, (0 : Int)) : Bool × Int) H)
def darningref4_Within.b (x0 : Sl) (x1 : Int) (x2 : Int) (H : AH) (k : Bool → AH → Prop) : Prop :=
  bcase (decide ((x2 : Int) < (0 : Int))) (darningref4_Within.j2 x0 x1 x2 H k true) (darningref4_Within.j2 x0 x1 x2 H k (decide ((x2 : Int) > (448 : Int))))
def darningref4_Within.ann : Ann := { keep := fun r => match r with | 4 => [(6, .bool), (18, .int .i64)] | _ => [], ord := fun r => match r with  | _ => [] }
theorem darningref4_Within.link {x0 : Sl} {x1 : Int} {x2 : Int} {H : AH} {k : Bool → AH → Prop} (h : darningref4_Within.b x0 x1 x2 H k) : darningref4_Within x0 x1 x2 H k := by
  have e : wpC Try.prog T pan Try.f113.ntmps darningref4_Within.ann (Try.f113.body.getD .skip) (argFr [(Sl.val x0), (Value.int .i64 x1), (Value.int .i64 x2)]) H (bodyK T Try.f113.results.toList fun e H' => out1 .bool e noPan (fun r0 => k r0 H')) = darningref4_Within.b x0 x1 x2 H k := by kernel_rfl
  have h1 : LCalls Try.prog 113 [(Sl.val x0), (Value.int .i64 x1), (Value.int .i64 x2)] H (fun e H' => out1 .bool e noPan (fun r0 => k r0 H')) := lcalls_of hT hm Try.func113 (by kernel_rfl) darningref4_Within.ann (Nat.le_of_ble_eq_true (by kernel_rfl)) (e.mpr h)
  exact h1.mono fun _ _ hq => out1_in (fun h => by cases h) hq

def darningref4_inside.b (x0 : Int) (x1 : Int) (x2 : Int) (H : AH) (k : Bool → AH → Prop) : Prop :=
  bcase (decide ((x1 : Int) ≥ (0 : Int))) (bcase (decide ((x2 : Int) ≥ (0 : Int))) (bcase (decide ((x2 : Int) ≤ (448 : Int))) (bcase (decide ((x1 : Int) ≤ (IntKind.wrap .i64 ((8 : Int) * x0)))) (k (decide ((x2 : Int) ≤ (IntKind.wrap .i64 ((IntKind.wrap .i64 ((8 : Int) * x0)) - x1)))) H) (k false H)) (k false H)) (k false H)) (k false H)
def darningref4_inside.ann : Ann := { keep := fun r => match r with  | _ => [], ord := fun r => match r with  | _ => [] }
theorem darningref4_inside.link {x0 : Int} {x1 : Int} {x2 : Int} {H : AH} {k : Bool → AH → Prop} (h : darningref4_inside.b x0 x1 x2 H k) : darningref4_inside x0 x1 x2 H k := by
  have e : wpC Try.prog T pan Try.f82.ntmps darningref4_inside.ann (Try.f82.body.getD .skip) (argFr [(Value.int .i64 x0), (Value.int .i64 x1), (Value.int .i64 x2)]) H (bodyK T Try.f82.results.toList fun e H' => out1 .bool e noPan (fun r0 => k r0 H')) = darningref4_inside.b x0 x1 x2 H k := by kernel_rfl
  have h1 : LCalls Try.prog 82 [(Value.int .i64 x0), (Value.int .i64 x1), (Value.int .i64 x2)] H (fun e H' => out1 .bool e noPan (fun r0 => k r0 H')) := lcalls_of hT hm Try.func82 (by kernel_rfl) darningref4_inside.ann (Nat.le_of_ble_eq_true (by kernel_rfl)) (e.mpr h)
  exact h1.mono fun _ _ hq => out1_in (fun h => by cases h) hq

def darningref4_ByteEdits.j1 (x1 : Int) (t5 : Sl × Int) (it5 : (Sl × Int) → AH → Prop) (n28 : Int) (x8 : Sl) (Hj : AH) : Prop :=
  (0 ≤ (IntKind.wrap .i64 (((x8.n : Nat) : Int) - (1 : Int))) ∧ (IntKind.wrap .i64 (((x8.n : Nat) : Int) - (1 : Int))) < ((x8.n : Nat) : Int)) ∧ onPtr x8.a fun a66 => elI .u64 (AH.cell? Hj (Addr.add (Addr.add a66 (Int.toNat (IntKind.wrap .i64 (((x8.n : Nat) : Int) - (1 : Int))) * 2)) 1)) fun n71 => (0 : Int) ≤ (IntKind.wrap .u64 (IntKind.wrap .i64 ((Int.tmod (IntKind.wrap .i64 (x1 + t5.2)) (8 : Int)) * (8 : Int)))) ∧ (0 : Int) ≤ (IntKind.wrap .u64 (IntKind.wrap .i64 ((Int.tmod (IntKind.wrap .i64 (x1 + t5.2)) (8 : Int)) * (8 : Int)))) ∧ stC Hj (Addr.add (Addr.add a66 (Int.toNat (IntKind.wrap .i64 (((x8.n : Nat) : Int) - (1 : Int))) * 2)) 1) [(Value.int .u64 (orI .u64 (andNotI .u64 n71 (shlI .u64 (255 : Int) (IntKind.wrap .u64 (IntKind.wrap .i64 ((Int.tmod (IntKind.wrap .i64 (x1 + t5.2)) (8 : Int)) * (8 : Int)))))) (shlI .u64 (IntKind.wrap .u64 n28) (IntKind.wrap .u64 (IntKind.wrap .i64 ((Int.tmod (IntKind.wrap .i64 (x1 + t5.2)) (8 : Int)) * (8 : Int)))))))] fun Hs2 => it5 (x8, (IntKind.wrap .i64 (t5.2 + (1 : Int)))) Hs2
def darningref4_ByteEdits.j2 (x0 : Sl) (x1 : Int) (t5 : Sl × Int) (it5 : (Sl × Int) → AH → Prop) (HL5 : AH) (n28 : Int) (x52 : Bool) : Prop :=
  bcase x52 ((0 ≤ (IntKind.wrap .i64 (Int.tdiv (IntKind.wrap .i64 (x1 + t5.2)) (8 : Int))) ∧ (IntKind.wrap .i64 (Int.tdiv (IntKind.wrap .i64 (x1 + t5.2)) (8 : Int))) < ((x0.n : Nat) : Int)) ∧ onPtr x0.a fun a57 => elI .u64 (AH.cell? HL5 (Addr.add a57 (Int.toNat (IntKind.wrap .i64 (Int.tdiv (IntKind.wrap .i64 (x1 + t5.2)) (8 : Int))) * 1))) fun n58 => (List.length [(Value.int .i64 (IntKind.wrap .i64 (Int.tdiv (IntKind.wrap .i64 (x1 + t5.2)) (8 : Int)))), (Value.int .u64 n58)] = 2) ∧ newC HL5 ⟨[(Value.int .i64 (IntKind.wrap .i64 (Int.tdiv (IntKind.wrap .i64 (x1 + t5.2)) (8 : Int)))), (Value.int .u64 n58)], .rw, 2⟩ fun o60 H60 => appendC 2 H60 t5.1 ⟨(some ⟨o60, 0, none⟩), 1, 1⟩ fun s61 H61 => darningref4_ByteEdits.j1 x1 t5 it5 n28 s61 H61) (darningref4_ByteEdits.j1 x1 t5 it5 n28 t5.1 HL5)
def darningref4_ByteEdits.l3 (x0 : Sl) (x1 : Int) (x2 : Sl) (k : Sl → Bool → AH → Prop) (t5 : Sl × Int) (HL5 : AH) (it5 : (Sl × Int) → AH → Prop) : Prop :=
  bcase (decide ((t5.2 : Int) < ((x2.n : Nat) : Int))) ((0 ≤ t5.2 ∧ t5.2 < ((x2.n : Nat) : Int)) ∧ onPtr x2.a fun a27 => elI .u8 (AH.cell? HL5 (Addr.add a27 (Int.toNat t5.2 * 1))) fun n28 => ((8 : Int) : Int) ≠ 0 ∧ ((8 : Int) : Int) ≠ 0 ∧ bcase ((((t5.1.n : Nat) : Int) : Int) == (0 : Int)) (darningref4_ByteEdits.j2 x0 x1 t5 it5 HL5 n28 true) ((0 ≤ (IntKind.wrap .i64 (((t5.1.n : Nat) : Int) - (1 : Int))) ∧ (IntKind.wrap .i64 (((t5.1.n : Nat) : Int) - (1 : Int))) < ((t5.1.n : Nat) : Int)) ∧ onPtr t5.1.a fun a47 => elI .i64 (AH.cell? HL5 (Addr.add (Addr.add a47 (Int.toNat (IntKind.wrap .i64 (((t5.1.n : Nat) : Int) - (1 : Int))) * 2)) 0)) fun n49 => darningref4_ByteEdits.j2 x0 x1 t5 it5 HL5 n28 ((n49 : Int) != (IntKind.wrap .i64 (Int.tdiv (IntKind.wrap .i64 (x1 + t5.2)) (8 : Int)))))) (k t5.1 true HL5)
def darningref4_ByteEdits.b (x0 : Sl) (x1 : Int) (x2 : Sl) (H : AH) (k : Sl → Bool → AH → Prop) : Prop :=
  darningref4_inside ((x0.n : Nat) : Int) x1 ((x2.n : Nat) : Int) H fun b20 H20 => bcase (!b20) (k ⟨none, 0, 0⟩ false H20) (loopT (darningref4_ByteEdits.l3 x0 x1 x2 k) ((⟨none, 0, 0⟩, (0 : Int)) : Sl × Int) H20)
def darningref4_ByteEdits.ann : Ann := { keep := fun r => match r with | 5 => [(8, .sl), (24, .int .i64)] | _ => [], ord := fun r => match r with  | _ => [] }
theorem darningref4_ByteEdits.link {x0 : Sl} {x1 : Int} {x2 : Sl} {H : AH} {k : Sl → Bool → AH → Prop} (h : darningref4_ByteEdits.b x0 x1 x2 H k) : darningref4_ByteEdits x0 x1 x2 H k := by
  have e : wpC Try.prog T pan Try.f46.ntmps darningref4_ByteEdits.ann (Try.f46.body.getD .skip) (argFr [(Sl.val x0), (Value.int .i64 x1), (Sl.val x2)]) H (bodyK T Try.f46.results.toList fun e H' => out2 .sl .bool e noPan (fun r0 r1 => k r0 r1 H')) = darningref4_ByteEdits.b x0 x1 x2 H k := by kernel_rfl
  have h1 : LCalls Try.prog 46 [(Sl.val x0), (Value.int .i64 x1), (Sl.val x2)] H (fun e H' => out2 .sl .bool e noPan (fun r0 r1 => k r0 r1 H')) := lcalls_of hT hm Try.func46 (by kernel_rfl) darningref4_ByteEdits.ann (Nat.le_of_ble_eq_true (by kernel_rfl)) (e.mpr h)
  exact h1.mono fun _ _ hq => out2_in (fun h => by cases h) (fun h => by cases h) hq

def darningref4_ImageWrite.b (x0 : Sl) (x1 : Int) (x2 : Sl) (H : AH) (k : Sl → Int → AH → Prop) : Prop :=
  darningref4_Blocks x0 H fun s14a b14b H14 => bcase (!b14b) (k ⟨none, 0, 0⟩ (6 : Int) H14) (darningref4_Within s14a x1 ((x2.n : Nat) : Int) H14 fun b23 H23 => bcase (!b23) (k ⟨none, 0, 0⟩ (1 : Int) H23) (darningref4_ByteEdits x0 x1 x2 H23 fun s29a b29b H29 => k s29a (0 : Int) H29))
def darningref4_ImageWrite.ann : Ann := { keep := fun r => match r with  | _ => [], ord := fun r => match r with  | _ => [] }
theorem darningref4_ImageWrite.link {x0 : Sl} {x1 : Int} {x2 : Sl} {H : AH} {k : Sl → Int → AH → Prop} (h : darningref4_ImageWrite.b x0 x1 x2 H k) : darningref4_ImageWrite x0 x1 x2 H k := by
  have e : wpC Try.prog T pan Try.f98.ntmps darningref4_ImageWrite.ann (Try.f98.body.getD .skip) (argFr [(Sl.val x0), (Value.int .i64 x1), (Sl.val x2)]) H (bodyK T Try.f98.results.toList fun e H' => out2 .sl (.int .i64) e noPan (fun r0 r1 => k r0 r1 H')) = darningref4_ImageWrite.b x0 x1 x2 H k := by kernel_rfl
  have h1 : LCalls Try.prog 98 [(Sl.val x0), (Value.int .i64 x1), (Sl.val x2)] H (fun e H' => out2 .sl (.int .i64) e noPan (fun r0 r1 => k r0 r1 H')) := lcalls_of hT hm Try.func98 (by kernel_rfl) darningref4_ImageWrite.ann (Nat.le_of_ble_eq_true (by kernel_rfl)) (e.mpr h)
  exact h1.mono fun _ _ hq => out2_in (fun h => by cases h) (fun h => by cases h) hq

def darningref4_Model_Write.b (x0 : Option Addr) (x1 : Int) (x2 : Sl) (H : AH) (k : Int → AH → Prop) : Prop :=
  onPtr x0 fun a11 => elL (AH.cell? H (Addr.add a11 0)) fun s13 => darningref4_ImageWrite s13 x1 x2 H fun s16a n16b H16 => bcase ((n16b : Int) == (0 : Int)) (onPtr x0 fun a23 => elL (AH.cell? H16 (Addr.add a23 0)) fun s25 => darningref4_Apply s25 s16a H16 fun s27 H27 => onPtr x0 fun a28 => stC H27 (Addr.add a28 0) [(Sl.val s27)] fun Hs2 => k n16b Hs2) (k n16b H16)
def darningref4_Model_Write.ann : Ann := { keep := fun r => match r with  | _ => [], ord := fun r => match r with  | _ => [] }
theorem darningref4_Model_Write.link {x0 : Option Addr} {x1 : Int} {x2 : Sl} {H : AH} {k : Int → AH → Prop} (h : darningref4_Model_Write.b x0 x1 x2 H k) : darningref4_Model_Write x0 x1 x2 H k := by
  have e : wpC Try.prog T pan Try.f72.ntmps darningref4_Model_Write.ann (Try.f72.body.getD .skip) (argFr [(Value.pointer x0), (Value.int .i64 x1), (Sl.val x2)]) H (bodyK T Try.f72.results.toList fun e H' => out1 (.int .i64) e noPan (fun r0 => k r0 H')) = darningref4_Model_Write.b x0 x1 x2 H k := by kernel_rfl
  have h1 : LCalls Try.prog 72 [(Value.pointer x0), (Value.int .i64 x1), (Sl.val x2)] H (fun e H' => out1 (.int .i64) e noPan (fun r0 => k r0 H')) := lcalls_of hT hm Try.func72 (by kernel_rfl) darningref4_Model_Write.ann (Nat.le_of_ble_eq_true (by kernel_rfl)) (e.mpr h)
  exact h1.mono fun _ _ hq => out1_in (fun h => by cases h) hq

def darningref4_Model_SetRoot.j1 (x0 : Option Addr) (x1 : Int) (k : Int → AH → Prop) (x13 : Bool) (Hj : AH) : Prop :=
  bcase x13 (k (1 : Int) Hj) (onPtr x0 fun a16 => stC Hj (Addr.add a16 1) [(Value.int .i64 x1)] fun Hs2 => k (0 : Int) Hs2)
def darningref4_Model_SetRoot.b (x0 : Option Addr) (x1 : Int) (H : AH) (k : Int → AH → Prop) : Prop :=
  bcase ((x1 : Int) != (0 : Int)) (darningref4_Model_Blocks x0 H fun s9 H9 => darningref4_Is s9 x1 H9 fun n11 H11 => darningref4_Model_SetRoot.j1 x0 x1 k (decide ((n11 : Int) < (0 : Int))) H11) (darningref4_Model_SetRoot.j1 x0 x1 k false H)
def darningref4_Model_SetRoot.ann : Ann := { keep := fun r => match r with  | _ => [], ord := fun r => match r with  | _ => [] }
theorem darningref4_Model_SetRoot.link {x0 : Option Addr} {x1 : Int} {H : AH} {k : Int → AH → Prop} (h : darningref4_Model_SetRoot.b x0 x1 H k) : darningref4_Model_SetRoot x0 x1 H k := by
  have e : wpC Try.prog T pan Try.f73.ntmps darningref4_Model_SetRoot.ann (Try.f73.body.getD .skip) (argFr [(Value.pointer x0), (Value.int .i64 x1)]) H (bodyK T Try.f73.results.toList fun e H' => out1 (.int .i64) e noPan (fun r0 => k r0 H')) = darningref4_Model_SetRoot.b x0 x1 H k := by kernel_rfl
  have h1 : LCalls Try.prog 73 [(Value.pointer x0), (Value.int .i64 x1)] H (fun e H' => out1 (.int .i64) e noPan (fun r0 => k r0 H')) := lcalls_of hT hm Try.func73 (by kernel_rfl) darningref4_Model_SetRoot.ann (Nat.le_of_ble_eq_true (by kernel_rfl)) (e.mpr h)
  exact h1.mono fun _ _ hq => out1_in (fun h => by cases h) hq

def darningref4_ReadBytes.l1 (x0 : Sl) (x1 : Int) (x2 : Int) (k : Sl → Bool → AH → Prop) (t5 : Sl × Int) (HL5 : AH) (it5 : (Sl × Int) → AH → Prop) : Prop :=
  bcase (decide ((t5.2 : Int) < (IntKind.wrap .i64 (x1 + x2)))) (((8 : Int) : Int) ≠ 0 ∧ (0 ≤ (IntKind.wrap .i64 (Int.tdiv t5.2 (8 : Int))) ∧ (IntKind.wrap .i64 (Int.tdiv t5.2 (8 : Int))) < ((x0.n : Nat) : Int)) ∧ onPtr x0.a fun a28 => elI .u64 (AH.cell? HL5 (Addr.add a28 (Int.toNat (IntKind.wrap .i64 (Int.tdiv t5.2 (8 : Int))) * 1))) fun n29 => ((8 : Int) : Int) ≠ 0 ∧ (0 : Int) ≤ (IntKind.wrap .u64 (IntKind.wrap .i64 ((Int.tmod t5.2 (8 : Int)) * (8 : Int)))) ∧ newC HL5 ⟨[(Value.int .u8 (IntKind.wrap .u8 (shrI .u64 n29 (IntKind.wrap .u64 (IntKind.wrap .i64 ((Int.tmod t5.2 (8 : Int)) * (8 : Int)))))))], .rw, 1⟩ fun o36 H36 => appendC 1 H36 t5.1 ⟨(some ⟨o36, 0, none⟩), 1, 1⟩ fun s37 H37 => it5 (s37, (IntKind.wrap .i64 (t5.2 + (1 : Int)))) H37) (k t5.1 true HL5)
def darningref4_ReadBytes.b (x0 : Sl) (x1 : Int) (x2 : Int) (H : AH) (k : Sl → Bool → AH → Prop) : Prop :=
  darningref4_inside ((x0.n : Nat) : Int) x1 x2 H fun b14 H14 => bcase (!b14) (k ⟨none, 0, 0⟩ false H14) (loopT (darningref4_ReadBytes.l1 x0 x1 x2 k) ((⟨none, 0, 0⟩, x1) : Sl × Int) H14)
def darningref4_ReadBytes.ann : Ann := { keep := fun r => match r with | 5 => [(8, .sl), (9, .int .i64)] | _ => [], ord := fun r => match r with  | _ => [] }
theorem darningref4_ReadBytes.link {x0 : Sl} {x1 : Int} {x2 : Int} {H : AH} {k : Sl → Bool → AH → Prop} (h : darningref4_ReadBytes.b x0 x1 x2 H k) : darningref4_ReadBytes x0 x1 x2 H k := by
  have e : wpC Try.prog T pan Try.f44.ntmps darningref4_ReadBytes.ann (Try.f44.body.getD .skip) (argFr [(Sl.val x0), (Value.int .i64 x1), (Value.int .i64 x2)]) H (bodyK T Try.f44.results.toList fun e H' => out2 .sl .bool e noPan (fun r0 r1 => k r0 r1 H')) = darningref4_ReadBytes.b x0 x1 x2 H k := by kernel_rfl
  have h1 : LCalls Try.prog 44 [(Sl.val x0), (Value.int .i64 x1), (Value.int .i64 x2)] H (fun e H' => out2 .sl .bool e noPan (fun r0 r1 => k r0 r1 H')) := lcalls_of hT hm Try.func44 (by kernel_rfl) darningref4_ReadBytes.ann (Nat.le_of_ble_eq_true (by kernel_rfl)) (e.mpr h)
  exact h1.mono fun _ _ hq => out2_in (fun h => by cases h) (fun h => by cases h) hq

def darningref4_ImageRead.b (x0 : Sl) (x1 : Int) (x2 : Int) (H : AH) (k : Sl → Int → AH → Prop) : Prop :=
  darningref4_Blocks x0 H fun s14a b14b H14 => bcase (!b14b) (k ⟨none, 0, 0⟩ (6 : Int) H14) (darningref4_Within s14a x1 x2 H14 fun b22 H22 => bcase (!b22) (k ⟨none, 0, 0⟩ (1 : Int) H22) (darningref4_ReadBytes x0 x1 x2 H22 fun s28a b28b H28 => k s28a (0 : Int) H28))
def darningref4_ImageRead.ann : Ann := { keep := fun r => match r with  | _ => [], ord := fun r => match r with  | _ => [] }
theorem darningref4_ImageRead.link {x0 : Sl} {x1 : Int} {x2 : Int} {H : AH} {k : Sl → Int → AH → Prop} (h : darningref4_ImageRead.b x0 x1 x2 H k) : darningref4_ImageRead x0 x1 x2 H k := by
  have e : wpC Try.prog T pan Try.f100.ntmps darningref4_ImageRead.ann (Try.f100.body.getD .skip) (argFr [(Sl.val x0), (Value.int .i64 x1), (Value.int .i64 x2)]) H (bodyK T Try.f100.results.toList fun e H' => out2 .sl (.int .i64) e noPan (fun r0 r1 => k r0 r1 H')) = darningref4_ImageRead.b x0 x1 x2 H k := by kernel_rfl
  have h1 : LCalls Try.prog 100 [(Sl.val x0), (Value.int .i64 x1), (Value.int .i64 x2)] H (fun e H' => out2 .sl (.int .i64) e noPan (fun r0 r1 => k r0 r1 H')) := lcalls_of hT hm Try.func100 (by kernel_rfl) darningref4_ImageRead.ann (Nat.le_of_ble_eq_true (by kernel_rfl)) (e.mpr h)
  exact h1.mono fun _ _ hq => out2_in (fun h => by cases h) (fun h => by cases h) hq

def darningref4_Model_Read.b (x0 : Option Addr) (x1 : Int) (x2 : Int) (H : AH) (k : Sl → Int → AH → Prop) : Prop :=
  onPtr x0 fun a9 => elL (AH.cell? H (Addr.add a9 0)) fun s11 => darningref4_ImageRead s11 x1 x2 H fun s14a n14b H14 => k s14a n14b H14
def darningref4_Model_Read.ann : Ann := { keep := fun r => match r with  | _ => [], ord := fun r => match r with  | _ => [] }
theorem darningref4_Model_Read.link {x0 : Option Addr} {x1 : Int} {x2 : Int} {H : AH} {k : Sl → Int → AH → Prop} (h : darningref4_Model_Read.b x0 x1 x2 H k) : darningref4_Model_Read x0 x1 x2 H k := by
  have e : wpC Try.prog T pan Try.f74.ntmps darningref4_Model_Read.ann (Try.f74.body.getD .skip) (argFr [(Value.pointer x0), (Value.int .i64 x1), (Value.int .i64 x2)]) H (bodyK T Try.f74.results.toList fun e H' => out2 .sl (.int .i64) e noPan (fun r0 r1 => k r0 r1 H')) = darningref4_Model_Read.b x0 x1 x2 H k := by kernel_rfl
  have h1 : LCalls Try.prog 74 [(Value.pointer x0), (Value.int .i64 x1), (Value.int .i64 x2)] H (fun e H' => out2 .sl (.int .i64) e noPan (fun r0 r1 => k r0 r1 H')) := lcalls_of hT hm Try.func74 (by kernel_rfl) darningref4_Model_Read.ann (Nat.le_of_ble_eq_true (by kernel_rfl)) (e.mpr h)
  exact h1.mono fun _ _ hq => out2_in (fun h => by cases h) (fun h => by cases h) hq

def darningref4_SameBlocks.l1 (x0 : Sl) (x1 : Sl) (k : Bool → AH → Prop) (t4 : Bool × Int) (HL4 : AH) (it4 : (Bool × Int) → AH → Prop) : Prop :=
  bcase (decide ((t4.2 : Int) < ((x0.n : Nat) : Int))) ((0 ≤ t4.2 ∧ t4.2 < ((x0.n : Nat) : Int)) ∧ onPtr x0.a fun a18 => ldA HL4 (Addr.add a18 (Int.toNat t4.2 * 3)) 3 fun c19 => (0 ≤ t4.2 ∧ t4.2 < ((x1.n : Nat) : Int)) ∧ onPtr x1.a fun a22 => ldA HL4 (Addr.add a22 (Int.toNat t4.2 * 3)) 3 fun c23 => elO (eqCells [(K.int .i64), (K.int .i64), K.bool] c19 c23) fun e24 => bcase (!e24) (k false HL4) (it4 (t4.1, (IntKind.wrap .i64 (t4.2 + (1 : Int)))) HL4)) (k true HL4)
def darningref4_SameBlocks.b (x0 : Sl) (x1 : Sl) (H : AH) (k : Bool → AH → Prop) : Prop :=
  bcase ((((x0.n : Nat) : Int) : Int) != ((x1.n : Nat) : Int)) (k false H) (loopT (darningref4_SameBlocks.l1 x0 x1 k) ((false, (0 : Int)) : Bool × Int) H)
def darningref4_SameBlocks.ann : Ann := { keep := fun r => match r with | 4 => [(4, .bool), (13, .int .i64)] | _ => [], ord := fun r => match r with | 6 => [0, 1, 2, 3, 4, 5, 6, 7, 8] | _ => [] }
theorem darningref4_SameBlocks.link {x0 : Sl} {x1 : Sl} {H : AH} {k : Bool → AH → Prop} (h : darningref4_SameBlocks.b x0 x1 H k) : darningref4_SameBlocks x0 x1 H k := by
  have e : wpC Try.prog T pan Try.f37.ntmps darningref4_SameBlocks.ann (Try.f37.body.getD .skip) (argFr [(Sl.val x0), (Sl.val x1)]) H (bodyK T Try.f37.results.toList fun e H' => out1 .bool e noPan (fun r0 => k r0 H')) = darningref4_SameBlocks.b x0 x1 H k := by kernel_rfl
  have h1 : LCalls Try.prog 37 [(Sl.val x0), (Sl.val x1)] H (fun e H' => out1 .bool e noPan (fun r0 => k r0 H')) := lcalls_of hT hm Try.func37 (by kernel_rfl) darningref4_SameBlocks.ann (Nat.le_of_ble_eq_true (by kernel_rfl)) (e.mpr h)
  exact h1.mono fun _ _ hq => out1_in (fun h => by cases h) hq

def darninglaw20_same.j1 (k : Bool → AH → Prop) (t4 : Bool × Int) (it4 : (Bool × Int) → AH → Prop) (H55 : AH) (x66 : Bool) : Prop :=
  bcase x66 (k false H55) (it4 (t4.1, (IntKind.wrap .i64 (t4.2 + (1 : Int)))) H55)
def darninglaw20_same.l2 (x0 : Option Addr) (x1 : Option Addr) (k : Bool → AH → Prop) (s28 : Sl) (t4 : Bool × Int) (HL4 : AH) (it4 : (Bool × Int) → AH → Prop) : Prop :=
  bcase (decide ((t4.2 : Int) < ((s28.n : Nat) : Int))) ((0 ≤ t4.2 ∧ t4.2 < ((s28.n : Nat) : Int)) ∧ onPtr s28.a fun a32 => ldA HL4 (Addr.add a32 (Int.toNat t4.2 * 3)) 3 fun c33 => newC HL4 ⟨[(Value.int .i64 (0 : Int)), (Value.int .i64 (0 : Int)), (Value.bool false)], .rw, 0⟩ fun o6 H6 => (List.length c33 = 3 ∧ List.all c33 cellOK = true) ∧ stC H6 ⟨o6, 0, none⟩ c33 fun Hs2 => elB (AH.cell? Hs2 (Addr.add ⟨o6, 0, none⟩ 2)) fun b35 => bcase (!b35) (it4 (t4.1, (IntKind.wrap .i64 (t4.2 + (1 : Int)))) Hs2) (elI .i64 (AH.cell? Hs2 (Addr.add ⟨o6, 0, none⟩ 1)) fun n38 => ldA Hs2 ⟨o6, 0, none⟩ 3 fun c44 => darningref4_Off c44 Hs2 fun n45 H45 => model_Model_Read x0 n45 (if (IntKind.wrap .i64 ((IntKind.wrap .i64 (n38 - (1 : Int))) * (8 : Int))) < (448 : Int) then (IntKind.wrap .i64 ((IntKind.wrap .i64 (n38 - (1 : Int))) * (8 : Int))) else (448 : Int)) H45 fun s47a n47b H47 => ldA H47 ⟨o6, 0, none⟩ 3 fun c52 => darningref4_Off c52 H47 fun n53 H53 => darningref4_Model_Read x1 n53 (if (IntKind.wrap .i64 ((IntKind.wrap .i64 (n38 - (1 : Int))) * (8 : Int))) < (448 : Int) then (IntKind.wrap .i64 ((IntKind.wrap .i64 (n38 - (1 : Int))) * (8 : Int))) else (448 : Int)) H53 fun s55a n55b H55 => bcase ((n47b : Int) != (0 : Int)) (darninglaw20_same.j1 k t4 it4 H55 true) (strC H55 s47a fun y62 => strC H55 s55a fun y64 => darninglaw20_same.j1 k t4 it4 H55 (!(ByteArray.toList ⟨List.toArray y62⟩ == ByteArray.toList ⟨List.toArray y64⟩))))) (k true HL4)
def darninglaw20_same.j3 (x0 : Option Addr) (x1 : Option Addr) (k : Bool → AH → Prop) (x26 : Bool) (Hj : AH) : Prop :=
  bcase x26 (k false Hj) (darningref4_Model_Blocks x1 Hj fun s28 H28 => loopT (darninglaw20_same.l2 x0 x1 k s28) ((false, (0 : Int)) : Bool × Int) H28)
def darninglaw20_same.b (x0 : Option Addr) (x1 : Option Addr) (H : AH) (k : Bool → AH → Prop) : Prop :=
  onPtr x1 fun a15 => elI .i64 (AH.cell? H (Addr.add a15 1)) fun n17 => model_Model_Root x0 H fun n13 H13 => AH.cell? H13 (Addr.add a15 1) = some (Value.int .i64 n17) ∧ bcase ((n13 : Int) != n17) (darninglaw20_same.j3 x0 x1 k true H13) (model_Model_Blocks x0 H13 fun s21 H21 => darningref4_Model_Blocks x1 H21 fun s23 H23 => darningref4_SameBlocks s21 s23 H23 fun b24 H24 => darninglaw20_same.j3 x0 x1 k (!b24) H24)
def darninglaw20_same.ann : Ann := { keep := fun r => match r with | 4 => [(4, .bool), (30, .int .i64)] | _ => [], ord := fun r => match r with | 1 => [0, 2, 3, 4, 5, 1, 6, 7, 8, 10, 9, 11, 12, 13, 14] | _ => [] }
theorem darninglaw20_same.link {x0 : Option Addr} {x1 : Option Addr} {H : AH} {k : Bool → AH → Prop} (h : darninglaw20_same.b x0 x1 H k) : darninglaw20_same x0 x1 H k := by
  have e : wpC Try.prog T pan Try.f29.ntmps darninglaw20_same.ann (Try.f29.body.getD .skip) (argFr [(Value.pointer x0), (Value.pointer x1)]) H (bodyK T Try.f29.results.toList fun e H' => out1 .bool e noPan (fun r0 => k r0 H')) = darninglaw20_same.b x0 x1 H k := by kernel_rfl
  have h1 : LCalls Try.prog 29 [(Value.pointer x0), (Value.pointer x1)] H (fun e H' => out1 .bool e noPan (fun r0 => k r0 H')) := lcalls_of hT hm Try.func29 (by kernel_rfl) darninglaw20_same.ann (Nat.le_of_ble_eq_true (by kernel_rfl)) (e.mpr h)
  exact h1.mono fun _ _ hq => out1_in (fun h => by cases h) hq

def darninglaw20_plays.j1 (x0 : Option Addr) (x1 : Option Addr) (k : Bool → AH → Prop) (t4 : Bool × Int) (it4 : (Bool × Int) → AH → Prop) (x9 : Bool) (Hj : AH) : Prop :=
  bcase (!x9) (k false Hj) (darninglaw20_same x0 x1 Hj fun b124 H124 => bcase (!b124) (k false H124) (it4 (t4.1, (IntKind.wrap .i64 (t4.2 + (1 : Int)))) H124))
def darninglaw20_plays.l2 (x0 : Option Addr) (x1 : Option Addr) (x2 : Sl) (k : Bool → AH → Prop) (t4 : Bool × Int) (HL4 : AH) (it4 : (Bool × Int) → AH → Prop) : Prop :=
  bcase (decide ((t4.2 : Int) < ((x2.n : Nat) : Int))) ((0 ≤ t4.2 ∧ t4.2 < ((x2.n : Nat) : Int)) ∧ onPtr x2.a fun a20 => ldA HL4 (Addr.add a20 (Int.toNat t4.2 * 4)) 4 fun c21 => newC HL4 ⟨[(Value.int .i64 (0 : Int)), (Value.int .i64 (0 : Int)), (Value.int .i64 (0 : Int)), (Value.slice none 0 0)], .rw, 0⟩ fun o8 H8 => (List.length c21 = 4 ∧ List.all c21 cellOK = true) ∧ stC H8 ⟨o8, 0, none⟩ c21 fun Hs2 => elL (AH.cell? Hs2 (Addr.add ⟨o8, 0, none⟩ 3)) fun s23 => bcase (decide ((((s23.n : Nat) : Int) : Int) > (500 : Int))) (k true Hs2) (elI .i64 (AH.cell? Hs2 (Addr.add ⟨o8, 0, none⟩ 0)) fun n27 => bcase ((n27 : Int) == (0 : Int)) (elI .i64 (AH.cell? Hs2 (Addr.add ⟨o8, 0, none⟩ 1)) fun n60 => elI .i64 (AH.cell? Hs2 (Addr.add ⟨o8, 0, none⟩ 1)) fun n64 => model_Model_Fits x0 n60 Hs2 fun s61 H61 => AH.cell? H61 (Addr.add ⟨o8, 0, none⟩ 1) = some (Value.int .i64 n64) ∧ darningref4_Model_Fits x1 n64 H61 fun s65 H65 => darningref1_Ints s61 s65 H65 fun b66 H66 => bcase b66 (elI .i64 (AH.cell? H66 (Addr.add ⟨o8, 0, none⟩ 1)) fun n70 => elI .i64 (AH.cell? H66 (Addr.add ⟨o8, 0, none⟩ 2)) fun n72 => elI .i64 (AH.cell? H66 (Addr.add ⟨o8, 0, none⟩ 1)) fun n76 => elI .i64 (AH.cell? H66 (Addr.add ⟨o8, 0, none⟩ 2)) fun n78 => model_Model_Alloc x0 n70 n72 H66 fun b73 H73 => AH.cell? H73 (Addr.add ⟨o8, 0, none⟩ 2) = some (Value.int .i64 n78) ∧ AH.cell? H73 (Addr.add ⟨o8, 0, none⟩ 1) = some (Value.int .i64 n76) ∧ darningref4_Model_Alloc x1 n76 n78 H73 fun b79 H79 => darninglaw20_plays.j1 x0 x1 k t4 it4 (b73 == b79) H79) (darninglaw20_plays.j1 x0 x1 k t4 it4 false H66)) (bcase ((n27 : Int) == (1 : Int)) (elI .i64 (AH.cell? Hs2 (Addr.add ⟨o8, 0, none⟩ 2)) fun n86 => elI .i64 (AH.cell? Hs2 (Addr.add ⟨o8, 0, none⟩ 2)) fun n90 => model_Model_Free x0 n86 Hs2 fun n87 H87 => AH.cell? H87 (Addr.add ⟨o8, 0, none⟩ 2) = some (Value.int .i64 n90) ∧ darningref4_Model_Free x1 n90 H87 fun n91 H91 => darninglaw20_plays.j1 x0 x1 k t4 it4 ((n87 : Int) == n91) H91) (bcase ((n27 : Int) == (2 : Int)) (elI .i64 (AH.cell? Hs2 (Addr.add ⟨o8, 0, none⟩ 2)) fun n97 => elL (AH.cell? Hs2 (Addr.add ⟨o8, 0, none⟩ 3)) fun s99 => elI .i64 (AH.cell? Hs2 (Addr.add ⟨o8, 0, none⟩ 2)) fun n103 => elL (AH.cell? Hs2 (Addr.add ⟨o8, 0, none⟩ 3)) fun s105 => model_Model_Write x0 n97 s99 Hs2 fun n100 H100 => AH.cell? H100 (Addr.add ⟨o8, 0, none⟩ 3) = some (Sl.val s105) ∧ AH.cell? H100 (Addr.add ⟨o8, 0, none⟩ 2) = some (Value.int .i64 n103) ∧ darningref4_Model_Write x1 n103 s105 H100 fun n106 H106 => darninglaw20_plays.j1 x0 x1 k t4 it4 ((n100 : Int) == n106) H106) (bcase ((n27 : Int) == (3 : Int)) (elI .i64 (AH.cell? Hs2 (Addr.add ⟨o8, 0, none⟩ 2)) fun n112 => elI .i64 (AH.cell? Hs2 (Addr.add ⟨o8, 0, none⟩ 2)) fun n116 => model_Model_SetRoot x0 n112 Hs2 fun n113 H113 => AH.cell? H113 (Addr.add ⟨o8, 0, none⟩ 2) = some (Value.int .i64 n116) ∧ darningref4_Model_SetRoot x1 n116 H113 fun n117 H117 => darninglaw20_plays.j1 x0 x1 k t4 it4 ((n113 : Int) == n117) H117) (elI .i64 (AH.cell? Hs2 (Addr.add ⟨o8, 0, none⟩ 2)) fun n31 => elI .i64 (AH.cell? Hs2 (Addr.add ⟨o8, 0, none⟩ 1)) fun n33 => model_Model_Read x0 n31 n33 Hs2 fun s34a n34b H34 => elI .i64 (AH.cell? H34 (Addr.add ⟨o8, 0, none⟩ 2)) fun n40 => elI .i64 (AH.cell? H34 (Addr.add ⟨o8, 0, none⟩ 1)) fun n42 => darningref4_Model_Read x1 n40 n42 H34 fun s43a n43b H43 => strC H43 s34a fun y47 => strC H43 s43a fun y49 => bcase (ByteArray.toList ⟨List.toArray y47⟩ == ByteArray.toList ⟨List.toArray y49⟩) (darninglaw20_plays.j1 x0 x1 k t4 it4 ((n34b : Int) == n43b) H43) (darninglaw20_plays.j1 x0 x1 k t4 it4 false H43))))))) (k true HL4)
def darninglaw20_plays.b (x0 : Option Addr) (x1 : Option Addr) (x2 : Sl) (H : AH) (k : Bool → AH → Prop) : Prop :=
  bcase (Option.isNone x0) (k false H) (loopT (darninglaw20_plays.l2 x0 x1 x2 k) ((false, (0 : Int)) : Bool × Int) H)
def darninglaw20_plays.ann : Ann := { keep := fun r => match r with | 4 => [(6, .bool), (18, .int .i64)] | _ => [], ord := fun r => match r with | 14 => [0, 1, 2, 4, 5, 6, 3, 7, 8, 9, 10, 11, 12, 13, 14, 16, 17, 18, 19, 20, 15, 21, 22, 23, 24] | 16 => [0, 1, 2, 4, 5, 6, 3, 7, 8, 9] | 18 => [0, 1, 2, 3, 4, 6, 7, 8, 9, 10, 5, 11, 12, 13] | 20 => [0, 1, 2, 4, 5, 6, 3, 7, 8, 9] | _ => [] }
theorem darninglaw20_plays.link {x0 : Option Addr} {x1 : Option Addr} {x2 : Sl} {H : AH} {k : Bool → AH → Prop} (h : darninglaw20_plays.b x0 x1 x2 H k) : darninglaw20_plays x0 x1 x2 H k := by
  have e : wpC Try.prog T pan Try.f26.ntmps darninglaw20_plays.ann (Try.f26.body.getD .skip) (argFr [(Value.pointer x0), (Value.pointer x1), (Sl.val x2)]) H (bodyK T Try.f26.results.toList fun e H' => out1 .bool e noPan (fun r0 => k r0 H')) = darninglaw20_plays.b x0 x1 x2 H k := by kernel_rfl
  have h1 : LCalls Try.prog 26 [(Value.pointer x0), (Value.pointer x1), (Sl.val x2)] H (fun e H' => out1 .bool e noPan (fun r0 => k r0 H')) := lcalls_of hT hm Try.func26 (by kernel_rfl) darninglaw20_plays.ann (Nat.le_of_ble_eq_true (by kernel_rfl)) (e.mpr h)
  exact h1.mono fun _ _ hq => out1_in (fun h => by cases h) hq

def darningref4_Model_Clone.b (x0 : Option Addr) (H : AH) (k : Option Addr → AH → Prop) : Prop :=
  onPtr x0 fun a4 => elL (AH.cell? H (Addr.add a4 0)) fun s6 => onPtr x0 fun a9 => elI .i64 (AH.cell? H (Addr.add a9 1)) fun n11 => appendC 1 H ⟨none, 0, 0⟩ s6 fun s7 H7 => AH.cell? H7 (Addr.add a9 1) = some (Value.int .i64 n11) ∧ newC H7 ⟨[(Sl.val s7), (Value.int .i64 n11)], .rw, 0⟩ fun o13 H13 => k (some ⟨o13, 0, none⟩) H13
def darningref4_Model_Clone.ann : Ann := { keep := fun r => match r with  | _ => [], ord := fun r => match r with | 1 => [0, 1, 2, 3, 5, 6, 7, 8, 4, 9, 10, 11] | _ => [] }
theorem darningref4_Model_Clone.link {x0 : Option Addr} {H : AH} {k : Option Addr → AH → Prop} (h : darningref4_Model_Clone.b x0 H k) : darningref4_Model_Clone x0 H k := by
  have e : wpC Try.prog T pan Try.f27.ntmps darningref4_Model_Clone.ann (Try.f27.body.getD .skip) (argFr [(Value.pointer x0)]) H (bodyK T Try.f27.results.toList fun e H' => out1 .ptr e noPan (fun r0 => k r0 H')) = darningref4_Model_Clone.b x0 H k := by kernel_rfl
  have h1 : LCalls Try.prog 27 [(Value.pointer x0)] H (fun e H' => out1 .ptr e noPan (fun r0 => k r0 H')) := lcalls_of hT hm Try.func27 (by kernel_rfl) darningref4_Model_Clone.ann (Nat.le_of_ble_eq_true (by kernel_rfl)) (e.mpr h)
  exact h1.mono fun _ _ hq => out1_in (fun h => by cases h) hq

def model_Model_Copy.l1 (k : Option Addr → AH → Prop) (o17 : Nat) (s21 : Sl) (t5 : Int) (HL5 : AH) (it5 : (Int) → AH → Prop) : Prop :=
  bcase (decide ((t5 : Int) < ((s21.n : Nat) : Int))) ((0 ≤ t5 ∧ t5 < ((s21.n : Nat) : Int)) ∧ onPtr s21.a fun a25 => ldA HL5 (Addr.add a25 (Int.toNat t5 * 3)) 3 fun c26 => newC HL5 ⟨[(Value.int .i64 (0 : Int)), (Value.int .i64 (0 : Int)), (Value.slice none 0 0)], .rw, 0⟩ fun o5 H5 => (List.length c26 = 3 ∧ List.all c26 cellOK = true) ∧ stC H5 ⟨o5, 0, none⟩ c26 fun Hs2 => elL (AH.cell? Hs2 (Addr.add ⟨o5, 0, none⟩ 2)) fun s28 => slices_Clone_bytebyte s28 Hs2 fun s29 H29 => stC H29 (Addr.add ⟨o5, 0, none⟩ 2) [(Sl.val s29)] fun Hs4 => elL (AH.cell? Hs4 (Addr.add ⟨o17, 0, none⟩ 1)) fun s35 => ldA Hs4 ⟨o5, 0, none⟩ 3 fun c36 => (List.length c36 = 3) ∧ newC Hs4 ⟨(setMany [(Value.int .i64 (0 : Int)), (Value.int .i64 (0 : Int)), (Value.slice none 0 0)] 0 c36), .rw, 3⟩ fun o37 H37 => appendC 3 H37 s35 ⟨(some ⟨o37, 0, none⟩), 1, 1⟩ fun s38 H38 => stC H38 (Addr.add ⟨o17, 0, none⟩ 1) [(Sl.val s38)] fun Hs6 => it5 (IntKind.wrap .i64 (t5 + (1 : Int))) Hs6) (k (some ⟨o17, 0, none⟩) HL5)
def model_Model_Copy.b (x0 : Option Addr) (H : AH) (k : Option Addr → AH → Prop) : Prop :=
  bcase (Option.isNone x0) (k none H) (onPtr x0 fun a9 => elI .i64 (AH.cell? H (Addr.add a9 0)) fun n11 => onPtr x0 fun a13 => elI .i64 (AH.cell? H (Addr.add a13 2)) fun n15 => newC H ⟨[(Value.int .i64 n11), (Value.slice none 0 0), (Value.int .i64 n15)], .rw, 0⟩ fun o17 H17 => onPtr x0 fun a19 => elL (AH.cell? H17 (Addr.add a19 1)) fun s21 => loopT (model_Model_Copy.l1 k o17 s21) (((0 : Int)) : Int) H17)
def model_Model_Copy.ann : Ann := { keep := fun r => match r with | 5 => [(23, .int .i64)] | _ => [], ord := fun r => match r with | 3 => [0, 1, 2, 3, 4, 5, 6, 7, 8, 9, 10] | 8 => [0, 1, 2, 3, 4, 5, 6, 7, 8, 9, 10] | _ => [] }
theorem model_Model_Copy.link {x0 : Option Addr} {H : AH} {k : Option Addr → AH → Prop} (h : model_Model_Copy.b x0 H k) : model_Model_Copy x0 H k := by
  have e : wpC Try.prog T pan Try.f28.ntmps model_Model_Copy.ann (Try.f28.body.getD .skip) (argFr [(Value.pointer x0)]) H (bodyK T Try.f28.results.toList fun e H' => out1 .ptr e noPan (fun r0 => k r0 H')) = model_Model_Copy.b x0 H k := by kernel_rfl
  have h1 : LCalls Try.prog 28 [(Value.pointer x0)] H (fun e H' => out1 .ptr e noPan (fun r0 => k r0 H')) := lcalls_of hT hm Try.func28 (by kernel_rfl) model_Model_Copy.ann (Nat.le_of_ble_eq_true (by kernel_rfl)) (e.mpr h)
  exact h1.mono fun _ _ hq => out1_in (fun h => by cases h) hq

def darninglaw20_ModelPlays.b (x0 : Int) (x1 : Sl) (x2 : Sl) (H : AH) (k : Bool → AH → Prop) : Prop :=
  bcase (decide (((IntKind.wrap .i64 (((x1.n : Nat) : Int) + ((x2.n : Nat) : Int))) : Int) > (120 : Int))) (darninglaw20_awake  H fun b16 H16 => k b16 H16) (model_New x0 H fun p18 H18 => darningref4_NewModel x0 H18 fun p20 H20 => bcase (!((!(Option.isNone p18)) == (!(Option.isNone p20)))) (k false H20) (bcase (Option.isNone p18) (darninglaw20_awake  H20 fun b28 H28 => k b28 H28) (darninglaw20_plays p18 p20 x1 H20 fun b32 H32 => bcase (!b32) (k false H32) (darningref4_Model_Clone p20 H32 fun p35 H35 => model_Model_Copy p18 H35 fun p37 H37 => darninglaw20_plays p37 p20 x2 H37 fun b40 H40 => bcase (!b40) (k false H40) (darninglaw20_same p18 p35 H40 fun b44 H44 => bcase b44 (darninglaw20_awake  H44 fun b46 H46 => k b46 H46) (k false H44))))))
def darninglaw20_ModelPlays.ann : Ann := { keep := fun r => match r with  | _ => [], ord := fun r => match r with  | _ => [] }
theorem darninglaw20_ModelPlays.link {x0 : Int} {x1 : Sl} {x2 : Sl} {H : AH} {k : Bool → AH → Prop} (h : darninglaw20_ModelPlays.b x0 x1 x2 H k) : darninglaw20_ModelPlays x0 x1 x2 H k := by
  have e : wpC Try.prog T pan Try.f5.ntmps darninglaw20_ModelPlays.ann (Try.f5.body.getD .skip) (argFr [(Value.int .i64 x0), (Sl.val x1), (Sl.val x2)]) H (bodyK T Try.f5.results.toList fun e H' => out1 .bool e noPan (fun r0 => k r0 H')) = darninglaw20_ModelPlays.b x0 x1 x2 H k := by kernel_rfl
  have h1 : LCalls Try.prog 5 [(Value.int .i64 x0), (Sl.val x1), (Sl.val x2)] H (fun e H' => out1 .bool e noPan (fun r0 => k r0 H')) := lcalls_of hT hm Try.func5 (by kernel_rfl) darninglaw20_ModelPlays.ann (Nat.le_of_ble_eq_true (by kernel_rfl)) (e.mpr h)
  exact h1.mono fun _ _ hq => out1_in (fun h => by cases h) hq

def darninglaw19_Heavy.j1 (k : Int → AH → Prop) (t2 : Int × Int) (it2 : (Int × Int) → AH → Prop) (Hs2 : AH) (x19 : Bool) : Prop :=
  bcase x19 (k (IntKind.wrap .i64 (t2.2 + (1 : Int))) Hs2) (it2 (t2.1, (IntKind.wrap .i64 (t2.2 + (1 : Int)))) Hs2)
def darninglaw19_Heavy.l2 (x0 : Sl) (k : Int → AH → Prop) (t2 : Int × Int) (HL2 : AH) (it2 : (Int × Int) → AH → Prop) : Prop :=
  bcase (decide ((t2.2 : Int) < ((x0.n : Nat) : Int))) ((0 ≤ t2.2 ∧ t2.2 < ((x0.n : Nat) : Int)) ∧ onPtr x0.a fun a10 => ldA HL2 (Addr.add a10 (Int.toNat t2.2 * 5)) 5 fun c11 => newC HL2 ⟨[(Value.int .i64 (0 : Int)), (Value.int .i64 (0 : Int)), (Value.int .i64 (0 : Int)), (Value.int .i64 (0 : Int)), (Value.slice none 0 0)], .rw, 0⟩ fun o4 H4 => (List.length c11 = 5 ∧ List.all c11 cellOK = true) ∧ stC H4 ⟨o4, 0, none⟩ c11 fun Hs2 => bcase (decide ((t2.2 : Int) ≥ (100 : Int))) (darninglaw19_Heavy.j1 k t2 it2 Hs2 true) (elL (AH.cell? Hs2 (Addr.add ⟨o4, 0, none⟩ 4)) fun s16 => darninglaw19_Heavy.j1 k t2 it2 Hs2 (decide ((((s16.n : Nat) : Int) : Int) > (500 : Int))))) (k (0 : Int) HL2)
def darninglaw19_Heavy.b (x0 : Sl) (H : AH) (k : Int → AH → Prop) : Prop :=
  loopT (darninglaw19_Heavy.l2 x0 k) (((0 : Int), (0 : Int)) : Int × Int) H
def darninglaw19_Heavy.ann : Ann := { keep := fun r => match r with | 2 => [(2, .int .i64), (7, .int .i64)] | _ => [], ord := fun r => match r with  | _ => [] }
theorem darninglaw19_Heavy.link {x0 : Sl} {H : AH} {k : Int → AH → Prop} (h : darninglaw19_Heavy.b x0 H k) : darninglaw19_Heavy x0 H k := by
  have e : wpC Try.prog T pan Try.f30.ntmps darninglaw19_Heavy.ann (Try.f30.body.getD .skip) (argFr [(Sl.val x0)]) H (bodyK T Try.f30.results.toList fun e H' => out1 (.int .i64) e noPan (fun r0 => k r0 H')) = darninglaw19_Heavy.b x0 H k := by kernel_rfl
  have h1 : LCalls Try.prog 30 [(Sl.val x0)] H (fun e H' => out1 (.int .i64) e noPan (fun r0 => k r0 H')) := lcalls_of hT hm Try.func30 (by kernel_rfl) darninglaw19_Heavy.ann (Nat.le_of_ble_eq_true (by kernel_rfl)) (e.mpr h)
  exact h1.mono fun _ _ hq => out1_in (fun h => by cases h) hq

def darninglaw20_ModelNil.b (x0 : List Value) (H : AH) (k : Bool → AH → Prop) : Prop :=
  newC H ⟨x0, .rw, 0⟩ fun o1 H1 => elL (AH.cell? H1 (Addr.add ⟨o1, 0, none⟩ 3)) fun s7 => bcase (decide ((((s7.n : Nat) : Int) : Int) > (500 : Int))) (darninglaw20_awake  H1 fun b10 H10 => k b10 H10) (elI .i64 (AH.cell? H1 (Addr.add ⟨o1, 0, none⟩ 2)) fun n14 => elI .i64 (AH.cell? H1 (Addr.add ⟨o1, 0, none⟩ 1)) fun n16 => model_Model_Read none n14 n16 H1 fun s17a n17b H17 => elI .i64 (AH.cell? H17 (Addr.add ⟨o1, 0, none⟩ 1)) fun n22 => model_Model_Fits none n22 H17 fun s23 H23 => bcase ((((s23.n : Nat) : Int) : Int) == (0 : Int)) (elI .i64 (AH.cell? H23 (Addr.add ⟨o1, 0, none⟩ 1)) fun n29 => elI .i64 (AH.cell? H23 (Addr.add ⟨o1, 0, none⟩ 2)) fun n31 => model_Model_Alloc none n29 n31 H23 fun b32 H32 => bcase (!b32) (elI .i64 (AH.cell? H32 (Addr.add ⟨o1, 0, none⟩ 2)) fun n38 => model_Model_Free none n38 H32 fun n39 H39 => bcase ((n39 : Int) == (1 : Int)) (bcase ((((s17a.n : Nat) : Int) : Int) == (0 : Int)) (bcase ((n17b : Int) == (1 : Int)) (elI .i64 (AH.cell? H39 (Addr.add ⟨o1, 0, none⟩ 2)) fun n54 => elL (AH.cell? H39 (Addr.add ⟨o1, 0, none⟩ 3)) fun s56 => model_Model_Write none n54 s56 H39 fun n57 H57 => bcase ((n57 : Int) == (1 : Int)) (elI .i64 (AH.cell? H57 (Addr.add ⟨o1, 0, none⟩ 2)) fun n63 => model_Model_SetRoot none n63 H57 fun n64 H64 => bcase ((n64 : Int) == (1 : Int)) (model_Model_Root none H64 fun n69 H69 => bcase ((n69 : Int) == (0 : Int)) (model_Model_Blocks none H69 fun s74 H74 => bcase ((((s74.n : Nat) : Int) : Int) == (0 : Int)) (model_Model_Copy none H74 fun p80 H80 => bcase (Option.isNone p80) (darninglaw19_Heavy ⟨none, 0, 0⟩ H80 fun n84 H84 => bcase ((n84 : Int) == (0 : Int)) (darninglaw20_awake  H84 fun b88 H88 => k b88 H88) (k false H84)) (k false H80)) (k false H74)) (k false H69)) (k false H64)) (k false H57)) (k false H39)) (k false H39)) (k false H39)) (k false H32)) (k false H23))
def darninglaw20_ModelNil.ann : Ann := { keep := fun r => match r with  | _ => [], ord := fun r => match r with  | _ => [] }
theorem darninglaw20_ModelNil.link {x0 : List Value} {H : AH} {k : Bool → AH → Prop} (h : darninglaw20_ModelNil.b x0 H k) : darninglaw20_ModelNil x0 H k := by
  have e : wpC Try.prog T pan Try.f6.ntmps darninglaw20_ModelNil.ann (Try.f6.body.getD .skip) (argFr [(Value.agg (List.toArray x0))]) H (bodyK T Try.f6.results.toList fun e H' => out1 .bool e noPan (fun r0 => k r0 H')) = darninglaw20_ModelNil.b x0 H k := by kernel_rfl
  have h1 : LCalls Try.prog 6 [(Value.agg (List.toArray x0))] H (fun e H' => out1 .bool e noPan (fun r0 => k r0 H')) := lcalls_of hT hm Try.func6 (by kernel_rfl) darninglaw20_ModelNil.ann (Nat.le_of_ble_eq_true (by kernel_rfl)) (e.mpr h)
  exact h1.mono fun _ _ hq => out1_in (fun h => by cases h) hq

def darninglaw20_ModelFits.j1 (x2 : Int) (k : Bool → AH → Prop) (s128a : Sl) (n128b : Int) (HL30 : AH) : Prop :=
  bcase ((n128b : Int) == (0 : Int)) (bcase ((((s128a.n : Nat) : Int) : Int) == x2) (darninglaw20_awake  HL30 fun b149 H149 => k b149 H149) (k false HL30)) (k false HL30)
def darninglaw20_ModelFits.l2 (x2 : Int) (k : Bool → AH → Prop) (s128a : Sl) (n128b : Int) (t30 : Bool × Int) (HL30 : AH) (it30 : (Bool × Int) → AH → Prop) : Prop :=
  bcase (decide ((t30.2 : Int) < ((s128a.n : Nat) : Int))) ((0 ≤ t30.2 ∧ t30.2 < ((s128a.n : Nat) : Int)) ∧ onPtr s128a.a fun a135 => elI .u8 (AH.cell? HL30 (Addr.add a135 (Int.toNat t30.2 * 1))) fun n136 => bcase ((n136 : Int) != (0 : Int)) (k false HL30) (it30 (t30.1, (IntKind.wrap .i64 (t30.2 + (1 : Int)))) HL30)) (darninglaw20_ModelFits.j1 x2 k s128a n128b HL30)
def darninglaw20_ModelFits.j3 (x2 : Int) (k : Bool → AH → Prop) (p30 : Option Addr) (n95 : Int) (x123 : Bool) (Hj : AH) : Prop :=
  bcase x123 (k false Hj) (model_Model_Read p30 n95 x2 Hj fun s128a n128b H128 => loopT (darninglaw20_ModelFits.l2 x2 k s128a n128b) ((false, (0 : Int)) : Bool × Int) H128)
def darninglaw20_ModelFits.j4 (x2 : Int) (x4 : Int) (k : Bool → AH → Prop) (p30 : Option Addr) (n95 : Int) (t21 : Bool × Int) (HL21 : AH) : Prop :=
  model_Model_Copy p30 HL21 fun p110 H110 => model_Model_Alloc p110 x2 x4 H110 fun b114 H114 => bcase (!(b114 == t21.1)) (darninglaw20_ModelFits.j3 x2 k p30 n95 true H114) (model_Model_Alloc p30 x2 n95 H114 fun b121 H121 => darninglaw20_ModelFits.j3 x2 k p30 n95 (!b121) H121)
def darninglaw20_ModelFits.l5 (x2 : Int) (x4 : Int) (k : Bool → AH → Prop) (p30 : Option Addr) (s74 : Sl) (n95 : Int) (t21 : Bool × Int) (HL21 : AH) (it21 : (Bool × Int) → AH → Prop) : Prop :=
  bcase (decide ((t21.2 : Int) < ((s74.n : Nat) : Int))) ((0 ≤ t21.2 ∧ t21.2 < ((s74.n : Nat) : Int)) ∧ onPtr s74.a fun a100 => elI .i64 (AH.cell? HL21 (Addr.add a100 (Int.toNat t21.2 * 1))) fun n101 => bcase t21.1 (it21 (true, (IntKind.wrap .i64 (t21.2 + (1 : Int)))) HL21) (it21 (((n101 : Int) == x4), (IntKind.wrap .i64 (t21.2 + (1 : Int)))) HL21)) (darninglaw20_ModelFits.j4 x2 x4 k p30 n95 t21 HL21)
def darninglaw20_ModelFits.j6 (x2 : Int) (x3 : Int) (x4 : Int) (k : Bool → AH → Prop) (p30 : Option Addr) (HL7 : AH) : Prop :=
  model_Model_Fits p30 x2 HL7 fun s74 H74 => bcase ((((s74.n : Nat) : Int) : Int) == (0 : Int)) (model_Model_Alloc p30 x2 x4 H74 fun b81 H81 => bcase (!b81) (darninglaw20_awake  H81 fun b84 H84 => k b84 H84) (k false H81)) (((IntKind.wrap .u64 ((s74.n : Nat) : Int)) : Int) ≠ 0 ∧ (0 ≤ (IntKind.wrap .i64 (Int.tmod (IntKind.wrap .u64 x3) (IntKind.wrap .u64 ((s74.n : Nat) : Int)))) ∧ (IntKind.wrap .i64 (Int.tmod (IntKind.wrap .u64 x3) (IntKind.wrap .u64 ((s74.n : Nat) : Int)))) < ((s74.n : Nat) : Int)) ∧ onPtr s74.a fun a94 => elI .i64 (AH.cell? H74 (Addr.add a94 (Int.toNat (IntKind.wrap .i64 (Int.tmod (IntKind.wrap .u64 x3) (IntKind.wrap .u64 ((s74.n : Nat) : Int)))) * 1))) fun n95 => loopT (darninglaw20_ModelFits.l5 x2 x4 k p30 s74 n95) ((false, (0 : Int)) : Bool × Int) H74)
def darninglaw20_ModelFits.j7 (p30 : Option Addr) (t7 : Int) (it7 : (Int) → AH → Prop) (o13 : Nat) (Hj : AH) : Prop :=
  elI .i64 (AH.cell? Hj (Addr.add ⟨o13, 0, none⟩ 0)) fun n65 => bcase ((n65 : Int) == (1 : Int)) (elI .i64 (AH.cell? Hj (Addr.add ⟨o13, 0, none⟩ 2)) fun n69 => model_Model_Free p30 n69 Hj fun n70 H70 => it7 (IntKind.wrap .i64 (t7 + (1 : Int))) H70) (it7 (IntKind.wrap .i64 (t7 + (1 : Int))) Hj)
def darninglaw20_ModelFits.j8 (p30 : Option Addr) (t7 : Int) (it7 : (Int) → AH → Prop) (o13 : Nat) (H48 : AH) (s48 : Sl) (x56 : Bool) : Prop :=
  bcase x56 (elI .i64 (AH.cell? H48 (Addr.add ⟨o13, 0, none⟩ 1)) fun n59 => (0 ≤ (0 : Int) ∧ (0 : Int) < ((s48.n : Nat) : Int)) ∧ onPtr s48.a fun a61 => elI .i64 (AH.cell? H48 (Addr.add a61 (Int.toNat (0 : Int) * 1))) fun n62 => model_Model_Alloc p30 n59 n62 H48 fun b63 H63 => darninglaw20_ModelFits.j7 p30 t7 it7 o13 H63) (darninglaw20_ModelFits.j7 p30 t7 it7 o13 H48)
def darninglaw20_ModelFits.l9 (x1 : Sl) (x2 : Int) (x3 : Int) (x4 : Int) (k : Bool → AH → Prop) (p30 : Option Addr) (t7 : Int) (HL7 : AH) (it7 : (Int) → AH → Prop) : Prop :=
  bcase (decide ((t7 : Int) < ((x1.n : Nat) : Int))) ((0 ≤ t7 ∧ t7 < ((x1.n : Nat) : Int)) ∧ onPtr x1.a fun a43 => ldA HL7 (Addr.add a43 (Int.toNat t7 * 4)) 4 fun c44 => newC HL7 ⟨[(Value.int .i64 (0 : Int)), (Value.int .i64 (0 : Int)), (Value.int .i64 (0 : Int)), (Value.slice none 0 0)], .rw, 0⟩ fun o13 H13 => (List.length c44 = 4 ∧ List.all c44 cellOK = true) ∧ stC H13 ⟨o13, 0, none⟩ c44 fun Hs2 => elI .i64 (AH.cell? Hs2 (Addr.add ⟨o13, 0, none⟩ 1)) fun n47 => model_Model_Fits p30 n47 Hs2 fun s48 H48 => elI .i64 (AH.cell? H48 (Addr.add ⟨o13, 0, none⟩ 0)) fun n50 => bcase ((n50 : Int) == (0 : Int)) (darninglaw20_ModelFits.j8 p30 t7 it7 o13 H48 s48 (decide ((((s48.n : Nat) : Int) : Int) > (0 : Int)))) (darninglaw20_ModelFits.j8 p30 t7 it7 o13 H48 s48 false)) (darninglaw20_ModelFits.j6 x2 x3 x4 k p30 HL7)
def darninglaw20_ModelFits.b (x0 : Int) (x1 : Sl) (x2 : Int) (x3 : Int) (x4 : Int) (H : AH) (k : Bool → AH → Prop) : Prop :=
  bcase (decide ((((x1.n : Nat) : Int) : Int) > (60 : Int))) (darninglaw20_awake  H fun b28 H28 => k b28 H28) (model_New x0 H fun p30 H30 => bcase (Option.isNone p30) (darningref4_NewModel x0 H30 fun p34 H34 => bcase (Option.isNone p34) (darninglaw20_awake  H34 fun b37 H37 => k b37 H37) (k false H34)) (loopT (darninglaw20_ModelFits.l9 x1 x2 x3 x4 k p30) (((0 : Int)) : Int) H30))
def darninglaw20_ModelFits.ann : Ann := { keep := fun r => match r with | 7 => [(41, .int .i64)] | 21 => [(17, .bool), (98, .int .i64)] | 30 => [(10, .bool), (133, .int .i64)] | _ => [], ord := fun r => match r with | 11 => [0, 1, 2, 3, 4, 5, 6] | _ => [] }
theorem darninglaw20_ModelFits.link {x0 : Int} {x1 : Sl} {x2 : Int} {x3 : Int} {x4 : Int} {H : AH} {k : Bool → AH → Prop} (h : darninglaw20_ModelFits.b x0 x1 x2 x3 x4 H k) : darninglaw20_ModelFits x0 x1 x2 x3 x4 H k := by
  have e : wpC Try.prog T pan Try.f7.ntmps darninglaw20_ModelFits.ann (Try.f7.body.getD .skip) (argFr [(Value.int .i64 x0), (Sl.val x1), (Value.int .i64 x2), (Value.int .i64 x3), (Value.int .i64 x4)]) H (bodyK T Try.f7.results.toList fun e H' => out1 .bool e noPan (fun r0 => k r0 H')) = darninglaw20_ModelFits.b x0 x1 x2 x3 x4 H k := by kernel_rfl
  have h1 : LCalls Try.prog 7 [(Value.int .i64 x0), (Sl.val x1), (Value.int .i64 x2), (Value.int .i64 x3), (Value.int .i64 x4)] H (fun e H' => out1 .bool e noPan (fun r0 => k r0 H')) := lcalls_of hT hm Try.func7 (by kernel_rfl) darninglaw20_ModelFits.ann (Nat.le_of_ble_eq_true (by kernel_rfl)) (e.mpr h)
  exact h1.mono fun _ _ hq => out1_in (fun h => by cases h) hq

def judge_New.b (x0 : Int) (H : AH) (k : Option Addr → AH → Prop) : Prop :=
  model_New x0 H fun p5 H5 => bcase (Option.isNone p5) (k none H5) (newC H5 ⟨[(Value.pointer p5), (Value.bool false)], .rw, 0⟩ fun o10 H10 => k (some ⟨o10, 0, none⟩) H10)
def judge_New.ann : Ann := { keep := fun r => match r with  | _ => [], ord := fun r => match r with  | _ => [] }
theorem judge_New.link {x0 : Int} {H : AH} {k : Option Addr → AH → Prop} (h : judge_New.b x0 H k) : judge_New x0 H k := by
  have e : wpC Try.prog T pan Try.f32.ntmps judge_New.ann (Try.f32.body.getD .skip) (argFr [(Value.int .i64 x0)]) H (bodyK T Try.f32.results.toList fun e H' => out1 .ptr e noPan (fun r0 => k r0 H')) = judge_New.b x0 H k := by kernel_rfl
  have h1 : LCalls Try.prog 32 [(Value.int .i64 x0)] H (fun e H' => out1 .ptr e noPan (fun r0 => k r0 H')) := lcalls_of hT hm Try.func32 (by kernel_rfl) judge_New.ann (Nat.le_of_ble_eq_true (by kernel_rfl)) (e.mpr h)
  exact h1.mono fun _ _ hq => out1_in (fun h => by cases h) hq

def bytes_Equal.b (x0 : Sl) (x1 : Sl) (H : AH) (k : Bool → AH → Prop) : Prop :=
  strC H x0 fun y6 => strC H x1 fun y8 => k (ByteArray.toList ⟨List.toArray y6⟩ == ByteArray.toList ⟨List.toArray y8⟩) H
def bytes_Equal.ann : Ann := { keep := fun r => match r with  | _ => [], ord := fun r => match r with  | _ => [] }
theorem bytes_Equal.link {x0 : Sl} {x1 : Sl} {H : AH} {k : Bool → AH → Prop} (h : bytes_Equal.b x0 x1 H k) : bytes_Equal x0 x1 H k := by
  have e : wpC Try.prog T pan Try.f102.ntmps bytes_Equal.ann (Try.f102.body.getD .skip) (argFr [(Sl.val x0), (Sl.val x1)]) H (bodyK T Try.f102.results.toList fun e H' => out1 .bool e noPan (fun r0 => k r0 H')) = bytes_Equal.b x0 x1 H k := by kernel_rfl
  have h1 : LCalls Try.prog 102 [(Sl.val x0), (Sl.val x1)] H (fun e H' => out1 .bool e noPan (fun r0 => k r0 H')) := lcalls_of hT hm Try.func102 (by kernel_rfl) bytes_Equal.ann (Nat.le_of_ble_eq_true (by kernel_rfl)) (e.mpr h)
  exact h1.mono fun _ _ hq => out1_in (fun h => by cases h) hq

def judge_same.b (x0 : List Value) (x1 : List Value) (H : AH) (k : Bool → AH → Prop) : Prop :=
  newC H ⟨x0, .rw, 0⟩ fun o2 H2 => newC H2 ⟨x1, .rw, 0⟩ fun o3 H3 => elI .i64 (AH.cell? H3 (Addr.add ⟨o2, 0, none⟩ 0)) fun n6 => elI .i64 (AH.cell? H3 (Addr.add ⟨o3, 0, none⟩ 0)) fun n8 => bcase ((n6 : Int) == n8) (elI .i64 (AH.cell? H3 (Addr.add ⟨o2, 0, none⟩ 1)) fun n12 => elI .i64 (AH.cell? H3 (Addr.add ⟨o3, 0, none⟩ 1)) fun n14 => bcase ((n12 : Int) == n14) (elL (AH.cell? H3 (Addr.add ⟨o2, 0, none⟩ 2)) fun s19 => elL (AH.cell? H3 (Addr.add ⟨o3, 0, none⟩ 2)) fun s21 => bytes_Equal s19 s21 H3 fun b22 H22 => k b22 H22) (k false H3)) (k false H3)
def judge_same.ann : Ann := { keep := fun r => match r with  | _ => [], ord := fun r => match r with  | _ => [] }
theorem judge_same.link {x0 : List Value} {x1 : List Value} {H : AH} {k : Bool → AH → Prop} (h : judge_same.b x0 x1 H k) : judge_same x0 x1 H k := by
  have e : wpC Try.prog T pan Try.f78.ntmps judge_same.ann (Try.f78.body.getD .skip) (argFr [(Value.agg (List.toArray x0)), (Value.agg (List.toArray x1))]) H (bodyK T Try.f78.results.toList fun e H' => out1 .bool e noPan (fun r0 => k r0 H')) = judge_same.b x0 x1 H k := by kernel_rfl
  have h1 : LCalls Try.prog 78 [(Value.agg (List.toArray x0)), (Value.agg (List.toArray x1))] H (fun e H' => out1 .bool e noPan (fun r0 => k r0 H')) := lcalls_of hT hm Try.func78 (by kernel_rfl) judge_same.ann (Nat.le_of_ble_eq_true (by kernel_rfl)) (e.mpr h)
  exact h1.mono fun _ _ hq => out1_in (fun h => by cases h) hq

def judge_Judge_alloc.j1 (x0 : Option Addr) (k : Bool → AH → Prop) (o4 : Nat) (o5 : Nat) (H18 : AH) (x27 : Bool) : Prop :=
  bcase x27 (onPtr x0 fun a38 => elP (AH.cell? H18 (Addr.add a38 0)) fun p40 => elI .i64 (AH.cell? H18 (Addr.add ⟨o4, 0, none⟩ 2)) fun n42 => elI .i64 (AH.cell? H18 (Addr.add ⟨o5, 0, none⟩ 1)) fun n44 => model_Model_Alloc p40 n42 n44 H18 fun b45 H45 => k b45 H45) (ldA H18 ⟨o5, 0, none⟩ 3 fun c46 => judge_same c46 [(Value.int .i64 (4 : Int)), (Value.int .i64 (0 : Int)), (Value.slice none 0 0)] H18 fun b48 H48 => bcase b48 (onPtr x0 fun a51 => elP (AH.cell? H48 (Addr.add a51 0)) fun p53 => elI .i64 (AH.cell? H48 (Addr.add ⟨o4, 0, none⟩ 2)) fun n55 => model_Model_Fits p53 n55 H48 fun s56 H56 => k ((((s56.n : Nat) : Int) : Int) == (0 : Int)) H56) (k false H48))
def judge_Judge_alloc.b (x0 : Option Addr) (x1 : List Value) (x2 : List Value) (H : AH) (k : Bool → AH → Prop) : Prop :=
  newC H ⟨x1, .rw, 0⟩ fun o4 H4 => newC H4 ⟨x2, .rw, 0⟩ fun o5 H5 => elI .i64 (AH.cell? H5 (Addr.add ⟨o4, 0, none⟩ 2)) fun n9 => fit_Need n9 H5 fun n10 H10 => bcase ((n10 : Int) == (0 : Int)) (ldA H10 ⟨o5, 0, none⟩ 3 fun c12 => judge_same c12 [(Value.int .i64 (1 : Int)), (Value.int .i64 (0 : Int)), (Value.slice none 0 0)] H10 fun b14 H14 => k b14 H14) (ldA H10 ⟨o5, 0, none⟩ 3 fun c16 => judge_same c16 [(Value.int .i64 (3 : Int)), (Value.int .i64 (0 : Int)), (Value.slice none 0 0)] H10 fun b18 H18 => bcase b18 (onPtr x0 fun a20 => stC H18 (Addr.add a20 1) [(Value.bool true)] fun Hs2 => k true Hs2) (onPtr x0 fun a24 => elB (AH.cell? H18 (Addr.add a24 1)) fun b26 => bcase b26 (k false H18) (elI .i64 (AH.cell? H18 (Addr.add ⟨o5, 0, none⟩ 0)) fun n29 => bcase ((n29 : Int) == (0 : Int)) (elL (AH.cell? H18 (Addr.add ⟨o5, 0, none⟩ 2)) fun s33 => judge_Judge_alloc.j1 x0 k o4 o5 H18 ((((s33.n : Nat) : Int) : Int) == (0 : Int))) (judge_Judge_alloc.j1 x0 k o4 o5 H18 false))))
def judge_Judge_alloc.ann : Ann := { keep := fun r => match r with  | _ => [], ord := fun r => match r with | 9 => [0, 1, 2, 3, 4, 5, 6, 7, 8, 9] | 10 => [0, 1, 2, 3, 4, 5, 6, 7, 8, 9, 10, 11, 12, 13, 14] | _ => [] }
theorem judge_Judge_alloc.link {x0 : Option Addr} {x1 : List Value} {x2 : List Value} {H : AH} {k : Bool → AH → Prop} (h : judge_Judge_alloc.b x0 x1 x2 H k) : judge_Judge_alloc x0 x1 x2 H k := by
  have e : wpC Try.prog T pan Try.f76.ntmps judge_Judge_alloc.ann (Try.f76.body.getD .skip) (argFr [(Value.pointer x0), (Value.agg (List.toArray x1)), (Value.agg (List.toArray x2))]) H (bodyK T Try.f76.results.toList fun e H' => out1 .bool e noPan (fun r0 => k r0 H')) = judge_Judge_alloc.b x0 x1 x2 H k := by kernel_rfl
  have h1 : LCalls Try.prog 76 [(Value.pointer x0), (Value.agg (List.toArray x1)), (Value.agg (List.toArray x2))] H (fun e H' => out1 .bool e noPan (fun r0 => k r0 H')) := lcalls_of hT hm Try.func76 (by kernel_rfl) judge_Judge_alloc.ann (Nat.le_of_ble_eq_true (by kernel_rfl)) (e.mpr h)
  exact h1.mono fun _ _ hq => out1_in (fun h => by cases h) hq

def judge_does.b (x0 : Option Addr) (x1 : List Value) (H : AH) (k : Int → AH → Prop) : Prop :=
  newC H ⟨x1, .rw, 0⟩ fun o3 H3 => elI .i64 (AH.cell? H3 (Addr.add ⟨o3, 0, none⟩ 0)) fun n6 => bcase ((n6 : Int) == (2 : Int)) (elI .i64 (AH.cell? H3 (Addr.add ⟨o3, 0, none⟩ 1)) fun n11 => model_Model_Free x0 n11 H3 fun n12 H12 => k n12 H12) (bcase ((n6 : Int) == (4 : Int)) (elI .i64 (AH.cell? H3 (Addr.add ⟨o3, 0, none⟩ 1)) fun n17 => elL (AH.cell? H3 (Addr.add ⟨o3, 0, none⟩ 4)) fun s19 => model_Model_Write x0 n17 s19 H3 fun n20 H20 => k n20 H20) (elI .i64 (AH.cell? H3 (Addr.add ⟨o3, 0, none⟩ 1)) fun n23 => model_Model_SetRoot x0 n23 H3 fun n24 H24 => k n24 H24))
def judge_does.ann : Ann := { keep := fun r => match r with  | _ => [], ord := fun r => match r with  | _ => [] }
theorem judge_does.link {x0 : Option Addr} {x1 : List Value} {H : AH} {k : Int → AH → Prop} (h : judge_does.b x0 x1 H k) : judge_does x0 x1 H k := by
  have e : wpC Try.prog T pan Try.f101.ntmps judge_does.ann (Try.f101.body.getD .skip) (argFr [(Value.pointer x0), (Value.agg (List.toArray x1))]) H (bodyK T Try.f101.results.toList fun e H' => out1 (.int .i64) e noPan (fun r0 => k r0 H')) = judge_does.b x0 x1 H k := by kernel_rfl
  have h1 : LCalls Try.prog 101 [(Value.pointer x0), (Value.agg (List.toArray x1))] H (fun e H' => out1 (.int .i64) e noPan (fun r0 => k r0 H')) := lcalls_of hT hm Try.func101 (by kernel_rfl) judge_does.ann (Nat.le_of_ble_eq_true (by kernel_rfl)) (e.mpr h)
  exact h1.mono fun _ _ hq => out1_in (fun h => by cases h) hq

def judge_Judge_change.j1 (x0 : Option Addr) (k : Bool → AH → Prop) (p14 : Option Addr) (Hj : AH) : Prop :=
  onPtr x0 fun a64 => stC Hj (Addr.add a64 0) [(Value.pointer p14)] fun Hs2 => k true Hs2
def judge_Judge_change.j2 (x0 : Option Addr) (k : Bool → AH → Prop) (o5 : Nat) (p14 : Option Addr) (n17 : Int) (x9 : Bool) (x27 : Bool) (Hj : AH) : Prop :=
  bcase x27 (onPtr x0 fun a40 => stC Hj (Addr.add a40 1) [(Value.bool true)] fun Hs4 => k true Hs4) (bcase ((n17 : Int) == (0 : Int)) (bcase (!x9) (onPtr x0 fun a51 => elB (AH.cell? Hj (Addr.add a51 1)) fun b53 => bcase b53 (k false Hj) (ldA Hj ⟨o5, 0, none⟩ 3 fun c56 => judge_same c56 [(Value.int .i64 n17), (Value.int .i64 (0 : Int)), (Value.slice none 0 0)] Hj fun b59 H59 => bcase (!b59) (k false H59) (judge_Judge_change.j1 x0 k p14 H59))) (ldA Hj ⟨o5, 0, none⟩ 3 fun c56 => judge_same c56 [(Value.int .i64 n17), (Value.int .i64 (0 : Int)), (Value.slice none 0 0)] Hj fun b59 H59 => bcase (!b59) (k false H59) (judge_Judge_change.j1 x0 k p14 H59))) (ldA Hj ⟨o5, 0, none⟩ 3 fun c56 => judge_same c56 [(Value.int .i64 n17), (Value.int .i64 (0 : Int)), (Value.slice none 0 0)] Hj fun b59 H59 => bcase (!b59) (k false H59) (judge_Judge_change.j1 x0 k p14 H59)))
def judge_Judge_change.j3 (x0 : Option Addr) (k : Bool → AH → Prop) (o5 : Nat) (p14 : Option Addr) (H17 : AH) (n17 : Int) (x9 : Bool) : Prop :=
  bcase ((n17 : Int) == (0 : Int)) (bcase (!x9) (ldA H17 ⟨o5, 0, none⟩ 3 fun c35 => judge_same c35 [(Value.int .i64 (3 : Int)), (Value.int .i64 (0 : Int)), (Value.slice none 0 0)] H17 fun b37 H37 => judge_Judge_change.j2 x0 k o5 p14 n17 x9 b37 H37) (judge_Judge_change.j2 x0 k o5 p14 n17 x9 false H17)) (judge_Judge_change.j2 x0 k o5 p14 n17 x9 false H17)
def judge_Judge_change.b (x0 : Option Addr) (x1 : List Value) (x2 : List Value) (H : AH) (k : Bool → AH → Prop) : Prop :=
  newC H ⟨x1, .rw, 0⟩ fun o4 H4 => newC H4 ⟨x2, .rw, 0⟩ fun o5 H5 => onPtr x0 fun a11 => elP (AH.cell? H5 (Addr.add a11 0)) fun p13 => model_Model_Copy p13 H5 fun p14 H14 => ldA H14 ⟨o4, 0, none⟩ 5 fun c16 => judge_does p14 c16 H14 fun n17 H17 => elI .i64 (AH.cell? H17 (Addr.add ⟨o4, 0, none⟩ 0)) fun n19 => bcase ((n19 : Int) == (4 : Int)) (elL (AH.cell? H17 (Addr.add ⟨o4, 0, none⟩ 4)) fun s23 => judge_Judge_change.j3 x0 k o5 p14 H17 n17 ((((s23.n : Nat) : Int) : Int) == (0 : Int))) (judge_Judge_change.j3 x0 k o5 p14 H17 n17 false)
def judge_Judge_change.ann : Ann := { keep := fun r => match r with  | _ => [], ord := fun r => match r with  | _ => [] }
theorem judge_Judge_change.link {x0 : Option Addr} {x1 : List Value} {x2 : List Value} {H : AH} {k : Bool → AH → Prop} (h : judge_Judge_change.b x0 x1 x2 H k) : judge_Judge_change x0 x1 x2 H k := by
  have e : wpC Try.prog T pan Try.f77.ntmps judge_Judge_change.ann (Try.f77.body.getD .skip) (argFr [(Value.pointer x0), (Value.agg (List.toArray x1)), (Value.agg (List.toArray x2))]) H (bodyK T Try.f77.results.toList fun e H' => out1 .bool e noPan (fun r0 => k r0 H')) = judge_Judge_change.b x0 x1 x2 H k := by kernel_rfl
  have h1 : LCalls Try.prog 77 [(Value.pointer x0), (Value.agg (List.toArray x1)), (Value.agg (List.toArray x2))] H (fun e H' => out1 .bool e noPan (fun r0 => k r0 H')) := lcalls_of hT hm Try.func77 (by kernel_rfl) judge_Judge_change.ann (Nat.le_of_ble_eq_true (by kernel_rfl)) (e.mpr h)
  exact h1.mono fun _ _ hq => out1_in (fun h => by cases h) hq

def judge_Judge_See.j1 (x0 : Option Addr) (k : Bool → AH → Prop) (o4 : Nat) (o5 : Nat) (H5 : AH) (n12 : Int) (x19 : Bool) : Prop :=
  bcase x19 (ldA H5 ⟨o4, 0, none⟩ 5 fun c24 => ldA H5 ⟨o5, 0, none⟩ 3 fun c25 => judge_Judge_change x0 c24 c25 H5 fun b26 H26 => k b26 H26) (bcase ((n12 : Int) == (3 : Int)) (onPtr x0 fun a31 => elP (AH.cell? H5 (Addr.add a31 0)) fun p33 => elI .i64 (AH.cell? H5 (Addr.add ⟨o4, 0, none⟩ 1)) fun n35 => elI .i64 (AH.cell? H5 (Addr.add ⟨o4, 0, none⟩ 2)) fun n37 => model_Model_Read p33 n35 n37 H5 fun s38a n38b H38 => ldA H38 ⟨o5, 0, none⟩ 3 fun c41 => judge_same c41 [(Value.int .i64 n38b), (Value.int .i64 (0 : Int)), (Sl.val s38a)] H38 fun b45 H45 => k b45 H45) (bcase ((n12 : Int) == (6 : Int)) (ldA H5 ⟨o5, 0, none⟩ 3 fun c48 => onPtr x0 fun a50 => elP (AH.cell? H5 (Addr.add a50 0)) fun p52 => model_Model_Root p52 H5 fun n53 H53 => AH.row? H53 ⟨o5, 0, none⟩ 3 = some c48 ∧ judge_same c48 [(Value.int .i64 (0 : Int)), (Value.int .i64 n53), (Value.slice none 0 0)] H53 fun b55 H55 => k b55 H55) (ldA H5 ⟨o5, 0, none⟩ 3 fun c56 => judge_same c56 [(Value.int .i64 (1 : Int)), (Value.int .i64 (0 : Int)), (Value.slice none 0 0)] H5 fun b58 H58 => k b58 H58)))
def judge_Judge_See.b (x0 : Option Addr) (x1 : List Value) (x2 : List Value) (H : AH) (k : Bool → AH → Prop) : Prop :=
  newC H ⟨x1, .rw, 0⟩ fun o4 H4 => newC H4 ⟨x2, .rw, 0⟩ fun o5 H5 => bcase (Option.isNone x0) (k false H5) (elI .i64 (AH.cell? H5 (Addr.add ⟨o4, 0, none⟩ 0)) fun n12 => bcase ((n12 : Int) == (1 : Int)) (ldA H5 ⟨o4, 0, none⟩ 5 fun c16 => ldA H5 ⟨o5, 0, none⟩ 3 fun c17 => judge_Judge_alloc x0 c16 c17 H5 fun b18 H18 => k b18 H18) (bcase ((n12 : Int) == (2 : Int)) (judge_Judge_See.j1 x0 k o4 o5 H5 n12 ((n12 : Int) == (2 : Int))) (bcase ((n12 : Int) == (4 : Int)) (judge_Judge_See.j1 x0 k o4 o5 H5 n12 ((n12 : Int) == (4 : Int))) (judge_Judge_See.j1 x0 k o4 o5 H5 n12 ((n12 : Int) == (5 : Int))))))
def judge_Judge_See.ann : Ann := { keep := fun r => match r with  | _ => [], ord := fun r => match r with | 11 => [0, 1, 2, 3, 4, 5, 6, 7, 8, 9, 10, 11, 12, 13] | 14 => [0, 1, 2, 3, 4, 5, 6, 7, 8] | _ => [] }
theorem judge_Judge_See.link {x0 : Option Addr} {x1 : List Value} {x2 : List Value} {H : AH} {k : Bool → AH → Prop} (h : judge_Judge_See.b x0 x1 x2 H k) : judge_Judge_See x0 x1 x2 H k := by
  have e : wpC Try.prog T pan Try.f33.ntmps judge_Judge_See.ann (Try.f33.body.getD .skip) (argFr [(Value.pointer x0), (Value.agg (List.toArray x1)), (Value.agg (List.toArray x2))]) H (bodyK T Try.f33.results.toList fun e H' => out1 .bool e noPan (fun r0 => k r0 H')) = judge_Judge_See.b x0 x1 x2 H k := by kernel_rfl
  have h1 : LCalls Try.prog 33 [(Value.pointer x0), (Value.agg (List.toArray x1)), (Value.agg (List.toArray x2))] H (fun e H' => out1 .bool e noPan (fun r0 => k r0 H')) := lcalls_of hT hm Try.func33 (by kernel_rfl) judge_Judge_See.ann (Nat.le_of_ble_eq_true (by kernel_rfl)) (e.mpr h)
  exact h1.mono fun _ _ hq => out1_in (fun h => by cases h) hq

def judge_Judge_Blocks.b (x0 : Option Addr) (H : AH) (k : Sl → AH → Prop) : Prop :=
  bcase (Option.isNone x0) (k ⟨none, 0, 0⟩ H) (onPtr x0 fun a6 => elP (AH.cell? H (Addr.add a6 0)) fun p8 => model_Model_Blocks p8 H fun s9 H9 => k s9 H9)
def judge_Judge_Blocks.ann : Ann := { keep := fun r => match r with  | _ => [], ord := fun r => match r with  | _ => [] }
theorem judge_Judge_Blocks.link {x0 : Option Addr} {H : AH} {k : Sl → AH → Prop} (h : judge_Judge_Blocks.b x0 H k) : judge_Judge_Blocks x0 H k := by
  have e : wpC Try.prog T pan Try.f38.ntmps judge_Judge_Blocks.ann (Try.f38.body.getD .skip) (argFr [(Value.pointer x0)]) H (bodyK T Try.f38.results.toList fun e H' => out1 .sl e noPan (fun r0 => k r0 H')) = judge_Judge_Blocks.b x0 H k := by kernel_rfl
  have h1 : LCalls Try.prog 38 [(Value.pointer x0)] H (fun e H' => out1 .sl e noPan (fun r0 => k r0 H')) := lcalls_of hT hm Try.func38 (by kernel_rfl) judge_Judge_Blocks.ann (Nat.le_of_ble_eq_true (by kernel_rfl)) (e.mpr h)
  exact h1.mono fun _ _ hq => out1_in (fun h => by cases h) hq

def judge_Judge_Worn.b (x0 : Option Addr) (H : AH) (k : Bool → AH → Prop) : Prop :=
  bcase (!(Option.isNone x0)) (onPtr x0 fun a7 => elB (AH.cell? H (Addr.add a7 1)) fun b9 => k b9 H) (k false H)
def judge_Judge_Worn.ann : Ann := { keep := fun r => match r with  | _ => [], ord := fun r => match r with  | _ => [] }
theorem judge_Judge_Worn.link {x0 : Option Addr} {H : AH} {k : Bool → AH → Prop} (h : judge_Judge_Worn.b x0 H k) : judge_Judge_Worn x0 H k := by
  have e : wpC Try.prog T pan Try.f35.ntmps judge_Judge_Worn.ann (Try.f35.body.getD .skip) (argFr [(Value.pointer x0)]) H (bodyK T Try.f35.results.toList fun e H' => out1 .bool e noPan (fun r0 => k r0 H')) = judge_Judge_Worn.b x0 H k := by kernel_rfl
  have h1 : LCalls Try.prog 35 [(Value.pointer x0)] H (fun e H' => out1 .bool e noPan (fun r0 => k r0 H')) := lcalls_of hT hm Try.func35 (by kernel_rfl) judge_Judge_Worn.ann (Nat.le_of_ble_eq_true (by kernel_rfl)) (e.mpr h)
  exact h1.mono fun _ _ hq => out1_in (fun h => by cases h) hq

def judge_Judge_Root.b (x0 : Option Addr) (H : AH) (k : Int → AH → Prop) : Prop :=
  bcase (Option.isNone x0) (k (0 : Int) H) (onPtr x0 fun a6 => elP (AH.cell? H (Addr.add a6 0)) fun p8 => model_Model_Root p8 H fun n9 H9 => k n9 H9)
def judge_Judge_Root.ann : Ann := { keep := fun r => match r with  | _ => [], ord := fun r => match r with  | _ => [] }
theorem judge_Judge_Root.link {x0 : Option Addr} {H : AH} {k : Int → AH → Prop} (h : judge_Judge_Root.b x0 H k) : judge_Judge_Root x0 H k := by
  have e : wpC Try.prog T pan Try.f36.ntmps judge_Judge_Root.ann (Try.f36.body.getD .skip) (argFr [(Value.pointer x0)]) H (bodyK T Try.f36.results.toList fun e H' => out1 (.int .i64) e noPan (fun r0 => k r0 H')) = judge_Judge_Root.b x0 H k := by kernel_rfl
  have h1 : LCalls Try.prog 36 [(Value.pointer x0)] H (fun e H' => out1 (.int .i64) e noPan (fun r0 => k r0 H')) := lcalls_of hT hm Try.func36 (by kernel_rfl) judge_Judge_Root.ann (Nat.le_of_ble_eq_true (by kernel_rfl)) (e.mpr h)
  exact h1.mono fun _ _ hq => out1_in (fun h => by cases h) hq

def darninglaw25_awake.b (H : AH) (k : Bool → AH → Prop) : Prop :=
  judge_New (16 : Int) H fun p5 H5 => bcase (Option.isNone p5) (k false H5) (judge_Judge_See p5 [(Value.int .i64 (1 : Int)), (Value.int .i64 (0 : Int)), (Value.int .i64 (8 : Int)), (Value.int .i64 (0 : Int)), (Value.slice none 0 0)] [(Value.int .i64 (0 : Int)), (Value.int .i64 (8 : Int)), (Value.slice none 0 0)] H5 fun b11 H11 => judge_Judge_See p5 [(Value.int .i64 (2 : Int)), (Value.int .i64 (16 : Int)), (Value.int .i64 (0 : Int)), (Value.int .i64 (0 : Int)), (Value.slice none 0 0)] [(Value.int .i64 (0 : Int)), (Value.int .i64 (0 : Int)), (Value.slice none 0 0)] H11 fun b15 H15 => newC H15 ⟨[(Value.int .u8 (0 : Int))], .rw, 1⟩ fun o18 H18 => judge_Judge_See p5 [(Value.int .i64 (3 : Int)), (Value.int .i64 (8 : Int)), (Value.int .i64 (1 : Int)), (Value.int .i64 (0 : Int)), (Value.slice none 0 0)] [(Value.int .i64 (0 : Int)), (Value.int .i64 (0 : Int)), (Value.slice (some ⟨o18, 0, none⟩) 1 1)] H18 fun b20 H20 => bcase b11 (bcase (!b15) (bcase b20 (judge_Judge_Blocks p5 H20 fun s31 H31 => bcase ((((s31.n : Nat) : Int) : Int) == (2 : Int)) (judge_Judge_Worn p5 H31 fun b37 H37 => bcase (!b37) (judge_Judge_Root p5 H37 fun n42 H42 => k ((n42 : Int) == (0 : Int)) H42) (k false H37)) (k false H31)) (k false H20)) (k false H20)) (k false H20))
def darninglaw25_awake.ann : Ann := { keep := fun r => match r with  | _ => [], ord := fun r => match r with  | _ => [] }
theorem darninglaw25_awake.link {_u : Unit} {H : AH} {k : Bool → AH → Prop} (h : darninglaw25_awake.b  H k) : darninglaw25_awake  H k := by
  have e : wpC Try.prog T pan Try.f31.ntmps darninglaw25_awake.ann (Try.f31.body.getD .skip) (argFr []) H (bodyK T Try.f31.results.toList fun e H' => out1 .bool e noPan (fun r0 => k r0 H')) = darninglaw25_awake.b  H k := by kernel_rfl
  have h1 : LCalls Try.prog 31 [] H (fun e H' => out1 .bool e noPan (fun r0 => k r0 H')) := lcalls_of hT hm Try.func31 (by kernel_rfl) darninglaw25_awake.ann (Nat.le_of_ble_eq_true (by kernel_rfl)) (e.mpr h)
  exact h1.mono fun _ _ hq => out1_in (fun h => by cases h) hq

def darningref4_SameAns.b (x0 : List Value) (x1 : List Value) (H : AH) (k : Bool → AH → Prop) : Prop :=
  newC H ⟨x0, .rw, 0⟩ fun o2 H2 => newC H2 ⟨x1, .rw, 0⟩ fun o3 H3 => elI .i64 (AH.cell? H3 (Addr.add ⟨o2, 0, none⟩ 0)) fun n6 => elI .i64 (AH.cell? H3 (Addr.add ⟨o3, 0, none⟩ 0)) fun n8 => bcase ((n6 : Int) == n8) (elI .i64 (AH.cell? H3 (Addr.add ⟨o2, 0, none⟩ 1)) fun n12 => elI .i64 (AH.cell? H3 (Addr.add ⟨o3, 0, none⟩ 1)) fun n14 => bcase ((n12 : Int) == n14) (elL (AH.cell? H3 (Addr.add ⟨o2, 0, none⟩ 2)) fun s19 => strC H3 s19 fun y20 => elL (AH.cell? H3 (Addr.add ⟨o3, 0, none⟩ 2)) fun s22 => strC H3 s22 fun y23 => k (ByteArray.toList ⟨List.toArray y20⟩ == ByteArray.toList ⟨List.toArray y23⟩) H3) (k false H3)) (k false H3)
def darningref4_SameAns.ann : Ann := { keep := fun r => match r with  | _ => [], ord := fun r => match r with  | _ => [] }
theorem darningref4_SameAns.link {x0 : List Value} {x1 : List Value} {H : AH} {k : Bool → AH → Prop} (h : darningref4_SameAns.b x0 x1 H k) : darningref4_SameAns x0 x1 H k := by
  have e : wpC Try.prog T pan Try.f79.ntmps darningref4_SameAns.ann (Try.f79.body.getD .skip) (argFr [(Value.agg (List.toArray x0)), (Value.agg (List.toArray x1))]) H (bodyK T Try.f79.results.toList fun e H' => out1 .bool e noPan (fun r0 => k r0 H')) = darningref4_SameAns.b x0 x1 H k := by kernel_rfl
  have h1 : LCalls Try.prog 79 [(Value.agg (List.toArray x0)), (Value.agg (List.toArray x1))] H (fun e H' => out1 .bool e noPan (fun r0 => k r0 H')) := lcalls_of hT hm Try.func79 (by kernel_rfl) darningref4_SameAns.ann (Nat.le_of_ble_eq_true (by kernel_rfl)) (e.mpr h)
  exact h1.mono fun _ _ hq => out1_in (fun h => by cases h) hq

def darningref4_Judge_See.j1 (k : Bool → AH → Prop) (o5 : Nat) (Hj : AH) : Prop :=
  elI .i64 (AH.cell? Hj (Addr.add ⟨o5, 0, none⟩ 0)) fun n185 => k ((n185 : Int) == (3 : Int)) Hj
def darningref4_Judge_See.j2 (x0 : Option Addr) (k : Bool → AH → Prop) (o5 : Nat) (p22 : Option Addr) (Hj : AH) (x9 : Int) (x171 : Bool) : Prop :=
  bcase x171 (onPtr x0 fun a174 => elB (AH.cell? Hj (Addr.add a174 1)) fun b176 => bcase b176 (onPtr x0 fun a182 => stC Hj (Addr.add a182 1) [(Value.bool true)] fun Hs2 => darningref4_Judge_See.j1 k o5 Hs2) (elI .i64 (AH.cell? Hj (Addr.add ⟨o5, 0, none⟩ 0)) fun n179 => onPtr x0 fun a182 => stC Hj (Addr.add a182 1) [(Value.bool ((n179 : Int) == (3 : Int)))] fun Hs4 => darningref4_Judge_See.j1 k o5 Hs4)) (elI .i64 (AH.cell? Hj (Addr.add ⟨o5, 0, none⟩ 0)) fun n188 => bcase ((n188 : Int) != x9) (k false Hj) (bcase ((x9 : Int) == (0 : Int)) (onPtr x0 fun a195 => stC Hj (Addr.add a195 0) [(Value.pointer p22)] fun Hs6 => k true Hs6) (k true Hj)))
def darningref4_Judge_See.j3 (x0 : Option Addr) (k : Bool → AH → Prop) (o5 : Nat) (p22 : Option Addr) (Hj : AH) (x9 : Int) (x12 : Bool) : Prop :=
  bcase ((x9 : Int) == (0 : Int)) (bcase (!x12) (onPtr x0 fun a163 => elB (AH.cell? Hj (Addr.add a163 1)) fun b165 => bcase b165 (darningref4_Judge_See.j2 x0 k o5 p22 Hj x9 true) (elI .i64 (AH.cell? Hj (Addr.add ⟨o5, 0, none⟩ 0)) fun n168 => darningref4_Judge_See.j2 x0 k o5 p22 Hj x9 ((n168 : Int) == (3 : Int)))) (darningref4_Judge_See.j2 x0 k o5 p22 Hj x9 false)) (darningref4_Judge_See.j2 x0 k o5 p22 Hj x9 false)
def darningref4_Judge_See.j4 (x0 : Option Addr) (k : Bool → AH → Prop) (o4 : Nat) (o5 : Nat) (b17 : Bool) (p22 : Option Addr) (x9 : Int) (Hj : AH) : Prop :=
  bcase (!b17) (k false Hj) (elI .i64 (AH.cell? Hj (Addr.add ⟨o4, 0, none⟩ 0)) fun n147 => bcase ((n147 : Int) == (4 : Int)) (elL (AH.cell? Hj (Addr.add ⟨o4, 0, none⟩ 4)) fun s151 => darningref4_Judge_See.j3 x0 k o5 p22 Hj x9 ((((s151.n : Nat) : Int) : Int) == (0 : Int))) (darningref4_Judge_See.j3 x0 k o5 p22 Hj x9 false))
def darningref4_Judge_See.j5 (x0 : Option Addr) (k : Bool → AH → Prop) (p22 : Option Addr) (x94 : Bool) (Hj : AH) : Prop :=
  bcase x94 (k false Hj) (onPtr x0 fun a97 => stC Hj (Addr.add a97 0) [(Value.pointer p22)] fun Hs12 => k true Hs12)
def darningref4_Judge_See.b (x0 : Option Addr) (x1 : List Value) (x2 : List Value) (H : AH) (k : Bool → AH → Prop) : Prop :=
  newC H ⟨x1, .rw, 0⟩ fun o4 H4 => newC H4 ⟨x2, .rw, 0⟩ fun o5 H5 => ldA H5 ⟨o5, 0, none⟩ 3 fun c13 => elI .i64 (AH.cell? H5 (Addr.add ⟨o5, 0, none⟩ 0)) fun n15 => darningref4_SameAns c13 [(Value.int .i64 n15), (Value.int .i64 (0 : Int)), (Value.slice none 0 0)] H5 fun b17 H17 => onPtr x0 fun a19 => elP (AH.cell? H17 (Addr.add a19 0)) fun p21 => darningref4_Model_Clone p21 H17 fun p22 H22 => elI .i64 (AH.cell? H22 (Addr.add ⟨o4, 0, none⟩ 0)) fun n24 => bcase ((n24 : Int) == (1 : Int)) (elI .i64 (AH.cell? H22 (Addr.add ⟨o4, 0, none⟩ 2)) fun n35 => darningref4_Need n35 H22 fun n36 H36 => bcase ((n36 : Int) == (0 : Int)) (bcase b17 (elI .i64 (AH.cell? H36 (Addr.add ⟨o5, 0, none⟩ 0)) fun n41 => k ((n41 : Int) == (1 : Int)) H36) (k false H36)) (elI .i64 (AH.cell? H36 (Addr.add ⟨o5, 0, none⟩ 0)) fun n46 => bcase ((n46 : Int) == (3 : Int)) (onPtr x0 fun a50 => elB (AH.cell? H36 (Addr.add a50 1)) fun b52 => bcase b52 (onPtr x0 fun a56 => stC H36 (Addr.add a56 1) [(Value.bool true)] fun Hs8 => k b17 Hs8) (onPtr x0 fun a56 => stC H36 (Addr.add a56 1) [(Value.bool b17)] fun Hs10 => k b17 Hs10)) (onPtr x0 fun a61 => elB (AH.cell? H36 (Addr.add a61 1)) fun b63 => bcase b63 (k false H36) (elI .i64 (AH.cell? H36 (Addr.add ⟨o5, 0, none⟩ 0)) fun n66 => bcase ((n66 : Int) == (4 : Int)) (bcase b17 (elI .i64 (AH.cell? H36 (Addr.add ⟨o4, 0, none⟩ 2)) fun n72 => darningref4_Model_Fits p22 n72 H36 fun s73 H73 => k ((((s73.n : Nat) : Int) : Int) == (0 : Int)) H73) (k false H36)) (elI .i64 (AH.cell? H36 (Addr.add ⟨o5, 0, none⟩ 0)) fun n78 => bcase ((n78 : Int) != (0 : Int)) (darningref4_Judge_See.j5 x0 k p22 true H36) (elL (AH.cell? H36 (Addr.add ⟨o5, 0, none⟩ 2)) fun s82 => bcase ((((s82.n : Nat) : Int) : Int) != (0 : Int)) (darningref4_Judge_See.j5 x0 k p22 true H36) (elI .i64 (AH.cell? H36 (Addr.add ⟨o4, 0, none⟩ 2)) fun n89 => elI .i64 (AH.cell? H36 (Addr.add ⟨o5, 0, none⟩ 1)) fun n91 => darningref4_Model_Alloc p22 n89 n91 H36 fun b92 H92 => darningref4_Judge_See.j5 x0 k p22 (!b92) H92))))))) (bcase ((n24 : Int) == (2 : Int)) (elI .i64 (AH.cell? H22 (Addr.add ⟨o4, 0, none⟩ 1)) fun n103 => darningref4_Model_Free p22 n103 H22 fun n104 H104 => darningref4_Judge_See.j4 x0 k o4 o5 b17 p22 n104 H104) (bcase ((n24 : Int) == (4 : Int)) (elI .i64 (AH.cell? H22 (Addr.add ⟨o4, 0, none⟩ 1)) fun n109 => elL (AH.cell? H22 (Addr.add ⟨o4, 0, none⟩ 4)) fun s111 => darningref4_Model_Write p22 n109 s111 H22 fun n112 H112 => darningref4_Judge_See.j4 x0 k o4 o5 b17 p22 n112 H112) (bcase ((n24 : Int) == (5 : Int)) (elI .i64 (AH.cell? H22 (Addr.add ⟨o4, 0, none⟩ 1)) fun n117 => darningref4_Model_SetRoot p22 n117 H22 fun n118 H118 => darningref4_Judge_See.j4 x0 k o4 o5 b17 p22 n118 H118) (bcase ((n24 : Int) == (3 : Int)) (elI .i64 (AH.cell? H22 (Addr.add ⟨o4, 0, none⟩ 1)) fun n124 => elI .i64 (AH.cell? H22 (Addr.add ⟨o4, 0, none⟩ 2)) fun n126 => darningref4_Model_Read p22 n124 n126 H22 fun s127a n127b H127 => ldA H127 ⟨o5, 0, none⟩ 3 fun c130 => darningref4_SameAns c130 [(Value.int .i64 n127b), (Value.int .i64 (0 : Int)), (Sl.val s127a)] H127 fun b134 H134 => k b134 H134) (bcase ((n24 : Int) == (6 : Int)) (ldA H22 ⟨o5, 0, none⟩ 3 fun c137 => onPtr p22 fun a139 => elI .i64 (AH.cell? H22 (Addr.add a139 1)) fun n141 => darningref4_SameAns c137 [(Value.int .i64 (0 : Int)), (Value.int .i64 n141), (Value.slice none 0 0)] H22 fun b143 H143 => k b143 H143) (bcase b17 (elI .i64 (AH.cell? H22 (Addr.add ⟨o5, 0, none⟩ 0)) fun n28 => k ((n28 : Int) == (1 : Int)) H22) (k false H22)))))))
def darningref4_Judge_See.ann : Ann := { keep := fun r => match r with  | _ => [], ord := fun r => match r with | 30 => [0, 1, 2, 3, 4, 5, 6, 7] | _ => [] }
theorem darningref4_Judge_See.link {x0 : Option Addr} {x1 : List Value} {x2 : List Value} {H : AH} {k : Bool → AH → Prop} (h : darningref4_Judge_See.b x0 x1 x2 H k) : darningref4_Judge_See x0 x1 x2 H k := by
  have e : wpC Try.prog T pan Try.f34.ntmps darningref4_Judge_See.ann (Try.f34.body.getD .skip) (argFr [(Value.pointer x0), (Value.agg (List.toArray x1)), (Value.agg (List.toArray x2))]) H (bodyK T Try.f34.results.toList fun e H' => out1 .bool e noPan (fun r0 => k r0 H')) = darningref4_Judge_See.b x0 x1 x2 H k := by kernel_rfl
  have h1 : LCalls Try.prog 34 [(Value.pointer x0), (Value.agg (List.toArray x1)), (Value.agg (List.toArray x2))] H (fun e H' => out1 .bool e noPan (fun r0 => k r0 H')) := lcalls_of hT hm Try.func34 (by kernel_rfl) darningref4_Judge_See.ann (Nat.le_of_ble_eq_true (by kernel_rfl)) (e.mpr h)
  exact h1.mono fun _ _ hq => out1_in (fun h => by cases h) hq

def darninglaw25_JudgeSees.j1 (k : Bool → AH → Prop) (HL11 : AH) : Prop :=
  darninglaw25_awake  HL11 fun b94 H94 => k b94 H94
def darninglaw25_JudgeSees.j2 (k : Bool → AH → Prop) (t11 : Bool × Int) (it11 : (Bool × Int) → AH → Prop) (x92 : Bool) (Hj : AH) : Prop :=
  bcase x92 (k false Hj) (it11 (t11.1, (IntKind.wrap .i64 (t11.2 + (1 : Int)))) Hj)
def darninglaw25_JudgeSees.j3 (k : Bool → AH → Prop) (p15 : Option Addr) (o28 : Nat) (t11 : Bool × Int) (it11 : (Bool × Int) → AH → Prop) (o9 : Nat) (Hs2 : AH) (x46 : Bool) : Prop :=
  bcase x46 (darninglaw25_awake  Hs2 fun b47 H47 => k b47 H47) (ldA Hs2 (Addr.add ⟨o9, 0, none⟩ 0) 5 fun c50 => ldA Hs2 (Addr.add ⟨o9, 0, none⟩ 5) 3 fun c52 => ldA Hs2 (Addr.add ⟨o9, 0, none⟩ 0) 5 fun c56 => ldA Hs2 (Addr.add ⟨o9, 0, none⟩ 5) 3 fun c58 => judge_Judge_See p15 c50 c52 Hs2 fun b53 H53 => AH.row? H53 (Addr.add ⟨o9, 0, none⟩ 5) 3 = some c58 ∧ AH.row? H53 (Addr.add ⟨o9, 0, none⟩ 0) 5 = some c56 ∧ darningref4_Judge_See (some ⟨o28, 0, none⟩) c56 c58 H53 fun b59 H59 => bcase (!(b53 == b59)) (darninglaw25_JudgeSees.j2 k t11 it11 true H59) (elB (AH.cell? H59 (Addr.add ⟨o28, 0, none⟩ 1)) fun b67 => judge_Judge_Worn p15 H59 fun b63 H63 => AH.cell? H63 (Addr.add ⟨o28, 0, none⟩ 1) = some (Value.bool b67) ∧ bcase (!(b63 == b67)) (darninglaw25_JudgeSees.j2 k t11 it11 true H63) (elP (AH.cell? H63 (Addr.add ⟨o28, 0, none⟩ 0)) fun p76 => onPtr p76 fun a77 => elI .i64 (AH.cell? H63 (Addr.add a77 1)) fun n79 => judge_Judge_Root p15 H63 fun n72 H72 => AH.cell? H72 (Addr.add a77 1) = some (Value.int .i64 n79) ∧ AH.cell? H72 (Addr.add ⟨o28, 0, none⟩ 0) = some (Value.pointer p76) ∧ bcase ((n72 : Int) != n79) (darninglaw25_JudgeSees.j2 k t11 it11 true H72) (elP (AH.cell? H72 (Addr.add ⟨o28, 0, none⟩ 0)) fun p88 => judge_Judge_Blocks p15 H72 fun s84 H84 => AH.cell? H84 (Addr.add ⟨o28, 0, none⟩ 0) = some (Value.pointer p88) ∧ darningref4_Model_Blocks p88 H84 fun s89 H89 => darningref4_SameBlocks s84 s89 H89 fun b90 H90 => darninglaw25_JudgeSees.j2 k t11 it11 (!b90) H90))))
def darninglaw25_JudgeSees.l4 (x1 : Sl) (k : Bool → AH → Prop) (p15 : Option Addr) (o28 : Nat) (t11 : Bool × Int) (HL11 : AH) (it11 : (Bool × Int) → AH → Prop) : Prop :=
  bcase (decide ((t11.2 : Int) < ((x1.n : Nat) : Int))) ((0 ≤ t11.2 ∧ t11.2 < ((x1.n : Nat) : Int)) ∧ onPtr x1.a fun a33 => ldA HL11 (Addr.add a33 (Int.toNat t11.2 * 8)) 8 fun c34 => newC HL11 ⟨[(Value.int .i64 (0 : Int)), (Value.int .i64 (0 : Int)), (Value.int .i64 (0 : Int)), (Value.int .i64 (0 : Int)), (Value.slice none 0 0), (Value.int .i64 (0 : Int)), (Value.int .i64 (0 : Int)), (Value.slice none 0 0)], .rw, 0⟩ fun o9 H9 => (List.length c34 = 8 ∧ List.all c34 cellOK = true) ∧ stC H9 ⟨o9, 0, none⟩ c34 fun Hs2 => elL (AH.cell? Hs2 (Addr.add (Addr.add ⟨o9, 0, none⟩ 0) 4)) fun s37 => bcase (decide ((((s37.n : Nat) : Int) : Int) > (500 : Int))) (darninglaw25_JudgeSees.j3 k p15 o28 t11 it11 o9 Hs2 true) (elL (AH.cell? Hs2 (Addr.add (Addr.add ⟨o9, 0, none⟩ 5) 2)) fun s43 => darninglaw25_JudgeSees.j3 k p15 o28 t11 it11 o9 Hs2 (decide ((((s43.n : Nat) : Int) : Int) > (500 : Int))))) (darninglaw25_JudgeSees.j1 k HL11)
def darninglaw25_JudgeSees.b (x0 : Int) (x1 : Sl) (H : AH) (k : Bool → AH → Prop) : Prop :=
  bcase (decide ((((x1.n : Nat) : Int) : Int) > (100 : Int))) (darninglaw25_awake  H fun b13 H13 => k b13 H13) (judge_New x0 H fun p15 H15 => darningref4_NewModel x0 H15 fun p17 H17 => bcase (!((!(Option.isNone p15)) == (!(Option.isNone p17)))) (k false H17) (bcase (Option.isNone p15) (darninglaw25_awake  H17 fun b25 H25 => k b25 H25) (newC H17 ⟨[(Value.pointer p17), (Value.bool false)], .rw, 0⟩ fun o28 H28 => loopT (darninglaw25_JudgeSees.l4 x1 k p15 o28) ((false, (0 : Int)) : Bool × Int) H28)))
def darninglaw25_JudgeSees.ann : Ann := { keep := fun r => match r with | 11 => [(4, .bool), (31, .int .i64)] | _ => [], ord := fun r => match r with | 15 => [0, 1, 2, 3, 4, 6, 7, 8, 9, 10, 5, 11, 12, 13, 14, 16, 17, 18, 19, 15, 20, 21, 22, 23, 25, 26, 27, 28, 29, 30, 31, 24, 32, 33, 34, 35, 37, 38, 39, 40, 36, 41, 42, 43, 44] | _ => [] }
theorem darninglaw25_JudgeSees.link {x0 : Int} {x1 : Sl} {H : AH} {k : Bool → AH → Prop} (h : darninglaw25_JudgeSees.b x0 x1 H k) : darninglaw25_JudgeSees x0 x1 H k := by
  have e : wpC Try.prog T pan Try.f8.ntmps darninglaw25_JudgeSees.ann (Try.f8.body.getD .skip) (argFr [(Value.int .i64 x0), (Sl.val x1)]) H (bodyK T Try.f8.results.toList fun e H' => out1 .bool e noPan (fun r0 => k r0 H')) = darninglaw25_JudgeSees.b x0 x1 H k := by kernel_rfl
  have h1 : LCalls Try.prog 8 [(Value.int .i64 x0), (Sl.val x1)] H (fun e H' => out1 .bool e noPan (fun r0 => k r0 H')) := lcalls_of hT hm Try.func8 (by kernel_rfl) darninglaw25_JudgeSees.ann (Nat.le_of_ble_eq_true (by kernel_rfl)) (e.mpr h)
  exact h1.mono fun _ _ hq => out1_in (fun h => by cases h) hq

def darninglaw25_JudgeNil.j1 (k : Bool → AH → Prop) (o1 : Nat) (H1 : AH) (x15 : Bool) : Prop :=
  bcase x15 (darninglaw25_awake  H1 fun b16 H16 => k b16 H16) (ldA H1 (Addr.add ⟨o1, 0, none⟩ 0) 5 fun c19 => ldA H1 (Addr.add ⟨o1, 0, none⟩ 5) 3 fun c21 => judge_Judge_See none c19 c21 H1 fun b22 H22 => bcase (!b22) (judge_Judge_Blocks none H22 fun s26 H26 => bcase ((((s26.n : Nat) : Int) : Int) == (0 : Int)) (judge_Judge_Worn none H26 fun b32 H32 => bcase (!b32) (judge_Judge_Root none H32 fun n37 H37 => bcase ((n37 : Int) == (0 : Int)) (darninglaw25_awake  H37 fun b41 H41 => k b41 H41) (k false H37)) (k false H32)) (k false H26)) (k false H22))
def darninglaw25_JudgeNil.b (x0 : List Value) (H : AH) (k : Bool → AH → Prop) : Prop :=
  newC H ⟨x0, .rw, 0⟩ fun o1 H1 => elL (AH.cell? H1 (Addr.add (Addr.add ⟨o1, 0, none⟩ 0) 4)) fun s6 => bcase (decide ((((s6.n : Nat) : Int) : Int) > (500 : Int))) (darninglaw25_JudgeNil.j1 k o1 H1 true) (elL (AH.cell? H1 (Addr.add (Addr.add ⟨o1, 0, none⟩ 5) 2)) fun s12 => darninglaw25_JudgeNil.j1 k o1 H1 (decide ((((s12.n : Nat) : Int) : Int) > (500 : Int))))
def darninglaw25_JudgeNil.ann : Ann := { keep := fun r => match r with  | _ => [], ord := fun r => match r with  | _ => [] }
theorem darninglaw25_JudgeNil.link {x0 : List Value} {H : AH} {k : Bool → AH → Prop} (h : darninglaw25_JudgeNil.b x0 H k) : darninglaw25_JudgeNil x0 H k := by
  have e : wpC Try.prog T pan Try.f9.ntmps darninglaw25_JudgeNil.ann (Try.f9.body.getD .skip) (argFr [(Value.agg (List.toArray x0))]) H (bodyK T Try.f9.results.toList fun e H' => out1 .bool e noPan (fun r0 => k r0 H')) = darninglaw25_JudgeNil.b x0 H k := by kernel_rfl
  have h1 : LCalls Try.prog 9 [(Value.agg (List.toArray x0))] H (fun e H' => out1 .bool e noPan (fun r0 => k r0 H')) := lcalls_of hT hm Try.func9 (by kernel_rfl) darninglaw25_JudgeNil.ann (Nat.le_of_ble_eq_true (by kernel_rfl)) (e.mpr h)
  exact h1.mono fun _ _ hq => out1_in (fun h => by cases h) hq

def darninglaw25_JudgeLies.j1 (k : Bool → AH → Prop) (p21 : Option Addr) (s33 : Sl) (o9 : Nat) (o10 : Nat) (Hj : AH) : Prop :=
  ldA Hj ⟨o9, 0, none⟩ 5 fun c72 => ldA Hj ⟨o10, 0, none⟩ 3 fun c73 => judge_Judge_See p21 c72 c73 Hj fun b74 H74 => bcase (!b74) (judge_Judge_Blocks p21 H74 fun s78 H78 => darningref4_SameBlocks s78 s33 H78 fun b80 H80 => bcase b80 (judge_Judge_Worn p21 H80 fun b84 H84 => bcase (!b84) (darninglaw25_awake  H84 fun b88 H88 => k b88 H88) (k false H84)) (k false H80)) (k false H74)
def darninglaw25_JudgeLies.j2 (x0 : Int) (x1 : Int) (x2 : Int) (k : Bool → AH → Prop) (p21 : Option Addr) (x31 : Bool) (Hj : AH) : Prop :=
  bcase x31 (k false Hj) (judge_Judge_Blocks p21 Hj fun s33 H33 => newC H33 ⟨[(Value.int .i64 (0 : Int)), (Value.int .i64 (0 : Int)), (Value.int .i64 (0 : Int)), (Value.int .i64 (0 : Int)), (Value.slice none 0 0)], .rw, 0⟩ fun o9 H9 => newC H9 ⟨[(Value.int .i64 (0 : Int)), (Value.int .i64 (0 : Int)), (Value.slice none 0 0)], .rw, 0⟩ fun o10 H10 => (List.length [(Value.int .i64 (2 : Int)), (Value.int .i64 (8 : Int)), (Value.int .i64 (0 : Int)), (Value.int .i64 (0 : Int)), (Value.slice none 0 0)] = 5 ∧ List.all [(Value.int .i64 (2 : Int)), (Value.int .i64 (8 : Int)), (Value.int .i64 (0 : Int)), (Value.int .i64 (0 : Int)), (Value.slice none 0 0)] cellOK = true) ∧ stC H10 ⟨o9, 0, none⟩ [(Value.int .i64 (2 : Int)), (Value.int .i64 (8 : Int)), (Value.int .i64 (0 : Int)), (Value.int .i64 (0 : Int)), (Value.slice none 0 0)] fun Hs2 => (List.length [(Value.int .i64 (0 : Int)), (Value.int .i64 (IntKind.wrap .i64 ((1 : Int) + (IntKind.wrap .i64 (Int.tmod (IntKind.wrap .u64 x1) (100 : Int)))))), (Value.slice none 0 0)] = 3 ∧ List.all [(Value.int .i64 (0 : Int)), (Value.int .i64 (IntKind.wrap .i64 ((1 : Int) + (IntKind.wrap .i64 (Int.tmod (IntKind.wrap .u64 x1) (100 : Int)))))), (Value.slice none 0 0)] cellOK = true) ∧ stC Hs2 ⟨o10, 0, none⟩ [(Value.int .i64 (0 : Int)), (Value.int .i64 (IntKind.wrap .i64 ((1 : Int) + (IntKind.wrap .i64 (Int.tmod (IntKind.wrap .u64 x1) (100 : Int)))))), (Value.slice none 0 0)] fun Hs4 => ((7 : Int) : Int) ≠ 0 ∧ bcase (((Int.tmod (IntKind.wrap .u64 x2) (7 : Int)) : Int) == (0 : Int)) ((List.length [(Value.int .i64 (1 : Int)), (Value.int .i64 (0 : Int)), (Value.int .i64 (IntKind.wrap .i64 ((1 : Int) + (IntKind.wrap .i64 (Int.tmod (IntKind.wrap .u64 x0) (100 : Int)))))), (Value.int .i64 (0 : Int)), (Value.slice none 0 0)] = 5 ∧ List.all [(Value.int .i64 (1 : Int)), (Value.int .i64 (0 : Int)), (Value.int .i64 (IntKind.wrap .i64 ((1 : Int) + (IntKind.wrap .i64 (Int.tmod (IntKind.wrap .u64 x0) (100 : Int)))))), (Value.int .i64 (0 : Int)), (Value.slice none 0 0)] cellOK = true) ∧ stC Hs4 ⟨o9, 0, none⟩ [(Value.int .i64 (1 : Int)), (Value.int .i64 (0 : Int)), (Value.int .i64 (IntKind.wrap .i64 ((1 : Int) + (IntKind.wrap .i64 (Int.tmod (IntKind.wrap .u64 x0) (100 : Int)))))), (Value.int .i64 (0 : Int)), (Value.slice none 0 0)] fun Hs6 => (List.length [(Value.int .i64 (0 : Int)), (Value.int .i64 (8 : Int)), (Value.slice none 0 0)] = 3 ∧ List.all [(Value.int .i64 (0 : Int)), (Value.int .i64 (8 : Int)), (Value.slice none 0 0)] cellOK = true) ∧ stC Hs6 ⟨o10, 0, none⟩ [(Value.int .i64 (0 : Int)), (Value.int .i64 (8 : Int)), (Value.slice none 0 0)] fun Hs8 => darninglaw25_JudgeLies.j1 k p21 s33 o9 o10 Hs8) (bcase (((Int.tmod (IntKind.wrap .u64 x2) (7 : Int)) : Int) == (1 : Int)) (newC Hs4 ⟨[(Value.int .u8 (IntKind.wrap .u8 (IntKind.wrap .i64 ((1 : Int) + (IntKind.wrap .i64 (Int.tmod (IntKind.wrap .u64 x1) (100 : Int)))))))], .rw, 1⟩ fun o50 H50 => (List.length [(Value.int .i64 (3 : Int)), (Value.int .i64 (8 : Int)), (Value.int .i64 (1 : Int)), (Value.int .i64 (0 : Int)), (Value.slice none 0 0)] = 5 ∧ List.all [(Value.int .i64 (3 : Int)), (Value.int .i64 (8 : Int)), (Value.int .i64 (1 : Int)), (Value.int .i64 (0 : Int)), (Value.slice none 0 0)] cellOK = true) ∧ stC H50 ⟨o9, 0, none⟩ [(Value.int .i64 (3 : Int)), (Value.int .i64 (8 : Int)), (Value.int .i64 (1 : Int)), (Value.int .i64 (0 : Int)), (Value.slice none 0 0)] fun Hs10 => (List.length [(Value.int .i64 (0 : Int)), (Value.int .i64 (0 : Int)), (Value.slice (some ⟨o50, 0, none⟩) 1 1)] = 3 ∧ List.all [(Value.int .i64 (0 : Int)), (Value.int .i64 (0 : Int)), (Value.slice (some ⟨o50, 0, none⟩) 1 1)] cellOK = true) ∧ stC Hs10 ⟨o10, 0, none⟩ [(Value.int .i64 (0 : Int)), (Value.int .i64 (0 : Int)), (Value.slice (some ⟨o50, 0, none⟩) 1 1)] fun Hs12 => darninglaw25_JudgeLies.j1 k p21 s33 o9 o10 Hs12) (bcase (((Int.tmod (IntKind.wrap .u64 x2) (7 : Int)) : Int) == (2 : Int)) ((List.length [(Value.int .i64 (6 : Int)), (Value.int .i64 (0 : Int)), (Value.int .i64 (0 : Int)), (Value.int .i64 (0 : Int)), (Value.slice none 0 0)] = 5 ∧ List.all [(Value.int .i64 (6 : Int)), (Value.int .i64 (0 : Int)), (Value.int .i64 (0 : Int)), (Value.int .i64 (0 : Int)), (Value.slice none 0 0)] cellOK = true) ∧ stC Hs4 ⟨o9, 0, none⟩ [(Value.int .i64 (6 : Int)), (Value.int .i64 (0 : Int)), (Value.int .i64 (0 : Int)), (Value.int .i64 (0 : Int)), (Value.slice none 0 0)] fun Hs14 => (List.length [(Value.int .i64 (0 : Int)), (Value.int .i64 (8 : Int)), (Value.slice none 0 0)] = 3 ∧ List.all [(Value.int .i64 (0 : Int)), (Value.int .i64 (8 : Int)), (Value.slice none 0 0)] cellOK = true) ∧ stC Hs14 ⟨o10, 0, none⟩ [(Value.int .i64 (0 : Int)), (Value.int .i64 (8 : Int)), (Value.slice none 0 0)] fun Hs16 => darninglaw25_JudgeLies.j1 k p21 s33 o9 o10 Hs16) (bcase (((Int.tmod (IntKind.wrap .u64 x2) (7 : Int)) : Int) == (3 : Int)) ((List.length [(Value.int .i64 (1 : Int)), (Value.int .i64 (0 : Int)), (Value.int .i64 (1 : Int)), (Value.int .i64 (0 : Int)), (Value.slice none 0 0)] = 5 ∧ List.all [(Value.int .i64 (1 : Int)), (Value.int .i64 (0 : Int)), (Value.int .i64 (1 : Int)), (Value.int .i64 (0 : Int)), (Value.slice none 0 0)] cellOK = true) ∧ stC Hs4 ⟨o9, 0, none⟩ [(Value.int .i64 (1 : Int)), (Value.int .i64 (0 : Int)), (Value.int .i64 (1 : Int)), (Value.int .i64 (0 : Int)), (Value.slice none 0 0)] fun Hs18 => (List.length [(Value.int .i64 (4 : Int)), (Value.int .i64 (0 : Int)), (Value.slice none 0 0)] = 3 ∧ List.all [(Value.int .i64 (4 : Int)), (Value.int .i64 (0 : Int)), (Value.slice none 0 0)] cellOK = true) ∧ stC Hs18 ⟨o10, 0, none⟩ [(Value.int .i64 (4 : Int)), (Value.int .i64 (0 : Int)), (Value.slice none 0 0)] fun Hs20 => darninglaw25_JudgeLies.j1 k p21 s33 o9 o10 Hs20) (bcase (((Int.tmod (IntKind.wrap .u64 x2) (7 : Int)) : Int) == (4 : Int)) ((List.length [(Value.int .i64 (5 : Int)), (Value.int .i64 (IntKind.wrap .i64 ((16 : Int) + (IntKind.wrap .i64 ((IntKind.wrap .i64 ((1 : Int) + (IntKind.wrap .i64 (Int.tmod (IntKind.wrap .u64 x1) (100 : Int))))) * (8 : Int)))))), (Value.int .i64 (0 : Int)), (Value.int .i64 (0 : Int)), (Value.slice none 0 0)] = 5 ∧ List.all [(Value.int .i64 (5 : Int)), (Value.int .i64 (IntKind.wrap .i64 ((16 : Int) + (IntKind.wrap .i64 ((IntKind.wrap .i64 ((1 : Int) + (IntKind.wrap .i64 (Int.tmod (IntKind.wrap .u64 x1) (100 : Int))))) * (8 : Int)))))), (Value.int .i64 (0 : Int)), (Value.int .i64 (0 : Int)), (Value.slice none 0 0)] cellOK = true) ∧ stC Hs4 ⟨o9, 0, none⟩ [(Value.int .i64 (5 : Int)), (Value.int .i64 (IntKind.wrap .i64 ((16 : Int) + (IntKind.wrap .i64 ((IntKind.wrap .i64 ((1 : Int) + (IntKind.wrap .i64 (Int.tmod (IntKind.wrap .u64 x1) (100 : Int))))) * (8 : Int)))))), (Value.int .i64 (0 : Int)), (Value.int .i64 (0 : Int)), (Value.slice none 0 0)] fun Hs22 => (List.length [(Value.int .i64 (0 : Int)), (Value.int .i64 (0 : Int)), (Value.slice none 0 0)] = 3 ∧ List.all [(Value.int .i64 (0 : Int)), (Value.int .i64 (0 : Int)), (Value.slice none 0 0)] cellOK = true) ∧ stC Hs22 ⟨o10, 0, none⟩ [(Value.int .i64 (0 : Int)), (Value.int .i64 (0 : Int)), (Value.slice none 0 0)] fun Hs24 => darninglaw25_JudgeLies.j1 k p21 s33 o9 o10 Hs24) (bcase (((Int.tmod (IntKind.wrap .u64 x2) (7 : Int)) : Int) == (5 : Int)) ((List.length [(Value.int .i64 (4 : Int)), (Value.int .i64 (8 : Int)), (Value.int .i64 (0 : Int)), (Value.int .i64 (0 : Int)), (Value.slice none 0 0)] = 5 ∧ List.all [(Value.int .i64 (4 : Int)), (Value.int .i64 (8 : Int)), (Value.int .i64 (0 : Int)), (Value.int .i64 (0 : Int)), (Value.slice none 0 0)] cellOK = true) ∧ stC Hs4 ⟨o9, 0, none⟩ [(Value.int .i64 (4 : Int)), (Value.int .i64 (8 : Int)), (Value.int .i64 (0 : Int)), (Value.int .i64 (0 : Int)), (Value.slice none 0 0)] fun Hs26 => (List.length [(Value.int .i64 (3 : Int)), (Value.int .i64 (0 : Int)), (Value.slice none 0 0)] = 3 ∧ List.all [(Value.int .i64 (3 : Int)), (Value.int .i64 (0 : Int)), (Value.slice none 0 0)] cellOK = true) ∧ stC Hs26 ⟨o10, 0, none⟩ [(Value.int .i64 (3 : Int)), (Value.int .i64 (0 : Int)), (Value.slice none 0 0)] fun Hs28 => darninglaw25_JudgeLies.j1 k p21 s33 o9 o10 Hs28) (darninglaw25_JudgeLies.j1 k p21 s33 o9 o10 Hs4)))))))
def darninglaw25_JudgeLies.b (x0 : Int) (x1 : Int) (x2 : Int) (H : AH) (k : Bool → AH → Prop) : Prop :=
  ((100 : Int) : Int) ≠ 0 ∧ ((100 : Int) : Int) ≠ 0 ∧ judge_New (64 : Int) H fun p21 H21 => bcase (Option.isNone p21) (darninglaw25_JudgeLies.j2 x0 x1 x2 k p21 true H21) (judge_Judge_See p21 [(Value.int .i64 (1 : Int)), (Value.int .i64 (0 : Int)), (Value.int .i64 (IntKind.wrap .i64 ((1 : Int) + (IntKind.wrap .i64 (Int.tmod (IntKind.wrap .u64 x0) (100 : Int)))))), (Value.int .i64 (0 : Int)), (Value.slice none 0 0)] [(Value.int .i64 (0 : Int)), (Value.int .i64 (8 : Int)), (Value.slice none 0 0)] H21 fun b29 H29 => darninglaw25_JudgeLies.j2 x0 x1 x2 k p21 (!b29) H29)
def darninglaw25_JudgeLies.ann : Ann := { keep := fun r => match r with  | _ => [], ord := fun r => match r with  | _ => [] }
theorem darninglaw25_JudgeLies.link {x0 : Int} {x1 : Int} {x2 : Int} {H : AH} {k : Bool → AH → Prop} (h : darninglaw25_JudgeLies.b x0 x1 x2 H k) : darninglaw25_JudgeLies x0 x1 x2 H k := by
  have e : wpC Try.prog T pan Try.f10.ntmps darninglaw25_JudgeLies.ann (Try.f10.body.getD .skip) (argFr [(Value.int .i64 x0), (Value.int .i64 x1), (Value.int .i64 x2)]) H (bodyK T Try.f10.results.toList fun e H' => out1 .bool e noPan (fun r0 => k r0 H')) = darninglaw25_JudgeLies.b x0 x1 x2 H k := by kernel_rfl
  have h1 : LCalls Try.prog 10 [(Value.int .i64 x0), (Value.int .i64 x1), (Value.int .i64 x2)] H (fun e H' => out1 .bool e noPan (fun r0 => k r0 H')) := lcalls_of hT hm Try.func10 (by kernel_rfl) darninglaw25_JudgeLies.ann (Nat.le_of_ble_eq_true (by kernel_rfl)) (e.mpr h)
  exact h1.mono fun _ _ hq => out1_in (fun h => by cases h) hq

def darninglaw25_JudgeWorn.j1 (x1 : Int) (k : Bool → AH → Prop) (p17 : Option Addr) (x41 : Bool) (Hj : AH) : Prop :=
  bcase x41 (k false Hj) (newC Hj ⟨[(Value.int .u8 x1)], .rw, 1⟩ fun o44 H44 => judge_Judge_See p17 [(Value.int .i64 (4 : Int)), (Value.int .i64 (8 : Int)), (Value.int .i64 (0 : Int)), (Value.int .i64 (0 : Int)), (Value.slice (some ⟨o44, 0, none⟩) 1 1)] [(Value.int .i64 (0 : Int)), (Value.int .i64 (0 : Int)), (Value.slice none 0 0)] H44 fun b47 H47 => judge_Judge_See p17 [(Value.int .i64 (2 : Int)), (Value.int .i64 (8 : Int)), (Value.int .i64 (0 : Int)), (Value.int .i64 (0 : Int)), (Value.slice none 0 0)] [(Value.int .i64 (0 : Int)), (Value.int .i64 (0 : Int)), (Value.slice none 0 0)] H47 fun b51 H51 => judge_Judge_See p17 [(Value.int .i64 (2 : Int)), (Value.int .i64 (8 : Int)), (Value.int .i64 (0 : Int)), (Value.int .i64 (0 : Int)), (Value.slice none 0 0)] [(Value.int .i64 (3 : Int)), (Value.int .i64 (0 : Int)), (Value.slice none 0 0)] H51 fun b55 H55 => judge_Judge_See p17 [(Value.int .i64 (1 : Int)), (Value.int .i64 (0 : Int)), (Value.int .i64 (1 : Int)), (Value.int .i64 (0 : Int)), (Value.slice none 0 0)] [(Value.int .i64 (4 : Int)), (Value.int .i64 (0 : Int)), (Value.slice none 0 0)] H55 fun b59 H59 => newC H59 ⟨[(Value.int .u8 (0 : Int))], .rw, 1⟩ fun o62 H62 => judge_Judge_See p17 [(Value.int .i64 (3 : Int)), (Value.int .i64 (8 : Int)), (Value.int .i64 (1 : Int)), (Value.int .i64 (0 : Int)), (Value.slice none 0 0)] [(Value.int .i64 (0 : Int)), (Value.int .i64 (0 : Int)), (Value.slice (some ⟨o62, 0, none⟩) 1 1)] H62 fun b64 H64 => judge_Judge_See p17 [(Value.int .i64 (2 : Int)), (Value.int .i64 (16 : Int)), (Value.int .i64 (0 : Int)), (Value.int .i64 (0 : Int)), (Value.slice none 0 0)] [(Value.int .i64 (1 : Int)), (Value.int .i64 (0 : Int)), (Value.slice none 0 0)] H64 fun b68 H68 => bcase (!b47) (bcase (!b51) (bcase b55 (bcase (!b59) (bcase b64 (bcase b68 (judge_Judge_Blocks p17 H68 fun s90 H90 => bcase (decide ((((s90.n : Nat) : Int) : Int) ≥ (1 : Int))) (darninglaw25_awake  H90 fun b95 H95 => k b95 H95) (k false H90)) (k false H68)) (k false H68)) (k false H68)) (k false H68)) (k false H68)) (k false H68))
def darninglaw25_JudgeWorn.b (x0 : Int) (x1 : Int) (H : AH) (k : Bool → AH → Prop) : Prop :=
  ((100 : Int) : Int) ≠ 0 ∧ judge_New (64 : Int) H fun p17 H17 => bcase (Option.isNone p17) (darninglaw25_JudgeWorn.j1 x1 k p17 true H17) (judge_Judge_See p17 [(Value.int .i64 (1 : Int)), (Value.int .i64 (0 : Int)), (Value.int .i64 (IntKind.wrap .i64 ((1 : Int) + (IntKind.wrap .i64 (Int.tmod (IntKind.wrap .u64 x0) (100 : Int)))))), (Value.int .i64 (0 : Int)), (Value.slice none 0 0)] [(Value.int .i64 (0 : Int)), (Value.int .i64 (8 : Int)), (Value.slice none 0 0)] H17 fun b25 H25 => bcase (!b25) (darninglaw25_JudgeWorn.j1 x1 k p17 true H25) (newC H25 ⟨[(Value.int .u8 x1)], .rw, 1⟩ fun o31 H31 => judge_Judge_See p17 [(Value.int .i64 (4 : Int)), (Value.int .i64 (8 : Int)), (Value.int .i64 (0 : Int)), (Value.int .i64 (0 : Int)), (Value.slice (some ⟨o31, 0, none⟩) 1 1)] [(Value.int .i64 (3 : Int)), (Value.int .i64 (0 : Int)), (Value.slice none 0 0)] H31 fun b34 H34 => bcase (!b34) (darninglaw25_JudgeWorn.j1 x1 k p17 true H34) (judge_Judge_Worn p17 H34 fun b39 H39 => darninglaw25_JudgeWorn.j1 x1 k p17 (!b39) H39)))
def darninglaw25_JudgeWorn.ann : Ann := { keep := fun r => match r with  | _ => [], ord := fun r => match r with  | _ => [] }
theorem darninglaw25_JudgeWorn.link {x0 : Int} {x1 : Int} {H : AH} {k : Bool → AH → Prop} (h : darninglaw25_JudgeWorn.b x0 x1 H k) : darninglaw25_JudgeWorn x0 x1 H k := by
  have e : wpC Try.prog T pan Try.f11.ntmps darninglaw25_JudgeWorn.ann (Try.f11.body.getD .skip) (argFr [(Value.int .i64 x0), (Value.int .u8 x1)]) H (bodyK T Try.f11.results.toList fun e H' => out1 .bool e noPan (fun r0 => k r0 H')) = darninglaw25_JudgeWorn.b x0 x1 H k := by kernel_rfl
  have h1 : LCalls Try.prog 11 [(Value.int .i64 x0), (Value.int .u8 x1)] H (fun e H' => out1 .bool e noPan (fun r0 => k r0 H')) := lcalls_of hT hm Try.func11 (by kernel_rfl) darninglaw25_JudgeWorn.ann (Nat.le_of_ble_eq_true (by kernel_rfl)) (e.mpr h)
  exact h1.mono fun _ _ hq => out1_in (fun h => by cases h) hq

def span_Pieces.l1 (x0 : Int) (x1 : Int) (k : Sl → AH → Prop) (t5 : Int × Sl) (HL5 : AH) (it5 : (Int × Sl) → AH → Prop) : Prop :=
  bcase (decide ((t5.1 : Int) < (IntKind.wrap .i64 (x0 + x1)))) (((8 : Int) : Int) ≠ 0 ∧ ((8 : Int) : Int) ≠ 0 ∧ newC HL5 ⟨[(Value.int .i64 (0 : Int)), (Value.int .i64 (0 : Int)), (Value.int .i64 (0 : Int))], .rw, 0⟩ fun o7 H7 => (List.length [(Value.int .i64 (IntKind.wrap .i64 (Int.tdiv t5.1 (8 : Int)))), (Value.int .i64 (Int.tmod t5.1 (8 : Int))), (Value.int .i64 (0 : Int))] = 3 ∧ List.all [(Value.int .i64 (IntKind.wrap .i64 (Int.tdiv t5.1 (8 : Int)))), (Value.int .i64 (Int.tmod t5.1 (8 : Int))), (Value.int .i64 (0 : Int))] cellOK = true) ∧ stC H7 ⟨o7, 0, none⟩ [(Value.int .i64 (IntKind.wrap .i64 (Int.tdiv t5.1 (8 : Int)))), (Value.int .i64 (Int.tmod t5.1 (8 : Int))), (Value.int .i64 (0 : Int))] fun Hs2 => elI .i64 (AH.cell? Hs2 (Addr.add ⟨o7, 0, none⟩ 1)) fun n34 => stC Hs2 (Addr.add ⟨o7, 0, none⟩ 2) [(Value.int .i64 (if (IntKind.wrap .i64 ((IntKind.wrap .i64 (x0 + x1)) - t5.1)) < (IntKind.wrap .i64 ((8 : Int) - n34)) then (IntKind.wrap .i64 ((IntKind.wrap .i64 (x0 + x1)) - t5.1)) else (IntKind.wrap .i64 ((8 : Int) - n34))))] fun Hs4 => ldA Hs4 ⟨o7, 0, none⟩ 3 fun c42 => (List.length c42 = 3) ∧ newC Hs4 ⟨(setMany [(Value.int .i64 (0 : Int)), (Value.int .i64 (0 : Int)), (Value.int .i64 (0 : Int))] 0 c42), .rw, 3⟩ fun o43 H43 => appendC 3 H43 t5.2 ⟨(some ⟨o43, 0, none⟩), 1, 1⟩ fun s44 H44 => elI .i64 (AH.cell? H44 (Addr.add ⟨o7, 0, none⟩ 2)) fun n47 => it5 ((IntKind.wrap .i64 (t5.1 + n47)), s44) H44) (k t5.2 HL5)
def span_Pieces.j2 (x0 : Int) (x1 : Int) (H : AH) (k : Sl → AH → Prop) (x21 : Bool) : Prop :=
  bcase x21 (k ⟨none, 0, 0⟩ H) (loopT (span_Pieces.l1 x0 x1 k) ((x0, ⟨none, 0, 0⟩) : Int × Sl) H)
def span_Pieces.b (x0 : Int) (x1 : Int) (H : AH) (k : Sl → AH → Prop) : Prop :=
  bcase (decide ((x0 : Int) < (0 : Int))) (span_Pieces.j2 x0 x1 H k true) (bcase (decide ((x1 : Int) < (0 : Int))) (span_Pieces.j2 x0 x1 H k true) (bcase (decide ((x0 : Int) > (1000000 : Int))) (span_Pieces.j2 x0 x1 H k true) (span_Pieces.j2 x0 x1 H k (decide ((x1 : Int) > (448 : Int))))))
def span_Pieces.ann : Ann := { keep := fun r => match r with | 5 => [(0, .int .i64), (5, .sl)] | _ => [], ord := fun r => match r with  | _ => [] }
theorem span_Pieces.link {x0 : Int} {x1 : Int} {H : AH} {k : Sl → AH → Prop} (h : span_Pieces.b x0 x1 H k) : span_Pieces x0 x1 H k := by
  have e : wpC Try.prog T pan Try.f41.ntmps span_Pieces.ann (Try.f41.body.getD .skip) (argFr [(Value.int .i64 x0), (Value.int .i64 x1)]) H (bodyK T Try.f41.results.toList fun e H' => out1 .sl e noPan (fun r0 => k r0 H')) = span_Pieces.b x0 x1 H k := by kernel_rfl
  have h1 : LCalls Try.prog 41 [(Value.int .i64 x0), (Value.int .i64 x1)] H (fun e H' => out1 .sl e noPan (fun r0 => k r0 H')) := lcalls_of hT hm Try.func41 (by kernel_rfl) span_Pieces.ann (Nat.le_of_ble_eq_true (by kernel_rfl)) (e.mpr h)
  exact h1.mono fun _ _ hq => out1_in (fun h => by cases h) hq

def span_within.b (x0 : Sl) (x1 : Int) (x2 : Int) (H : AH) (k : Bool → AH → Prop) : Prop :=
  bcase (decide ((x1 : Int) ≥ (0 : Int))) (bcase (decide ((x2 : Int) ≥ (0 : Int))) (bcase (decide ((x2 : Int) ≤ (448 : Int))) (k (decide ((x1 : Int) ≤ (IntKind.wrap .i64 ((IntKind.wrap .i64 (((x0.n : Nat) : Int) * (8 : Int))) - x2)))) H) (k false H)) (k false H)) (k false H)
def span_within.ann : Ann := { keep := fun r => match r with  | _ => [], ord := fun r => match r with  | _ => [] }
theorem span_within.link {x0 : Sl} {x1 : Int} {x2 : Int} {H : AH} {k : Bool → AH → Prop} (h : span_within.b x0 x1 x2 H k) : span_within x0 x1 x2 H k := by
  have e : wpC Try.prog T pan Try.f81.ntmps span_within.ann (Try.f81.body.getD .skip) (argFr [(Sl.val x0), (Value.int .i64 x1), (Value.int .i64 x2)]) H (bodyK T Try.f81.results.toList fun e H' => out1 .bool e noPan (fun r0 => k r0 H')) = span_within.b x0 x1 x2 H k := by kernel_rfl
  have h1 : LCalls Try.prog 81 [(Sl.val x0), (Value.int .i64 x1), (Value.int .i64 x2)] H (fun e H' => out1 .bool e noPan (fun r0 => k r0 H')) := lcalls_of hT hm Try.func81 (by kernel_rfl) span_within.ann (Nat.le_of_ble_eq_true (by kernel_rfl)) (e.mpr h)
  exact h1.mono fun _ _ hq => out1_in (fun h => by cases h) hq

def span_Read.l1 (x0 : Sl) (x1 : Int) (x2 : Int) (k : Sl → Bool → AH → Prop) (t5 : Sl × Int) (HL5 : AH) (it5 : (Sl × Int) → AH → Prop) : Prop :=
  bcase (decide ((t5.2 : Int) < (IntKind.wrap .i64 (x1 + x2)))) (((8 : Int) : Int) ≠ 0 ∧ (0 ≤ (IntKind.wrap .i64 (Int.tdiv t5.2 (8 : Int))) ∧ (IntKind.wrap .i64 (Int.tdiv t5.2 (8 : Int))) < ((x0.n : Nat) : Int)) ∧ onPtr x0.a fun a27 => elI .u64 (AH.cell? HL5 (Addr.add a27 (Int.toNat (IntKind.wrap .i64 (Int.tdiv t5.2 (8 : Int))) * 1))) fun n28 => ((8 : Int) : Int) ≠ 0 ∧ (0 : Int) ≤ (IntKind.wrap .i64 ((Int.tmod t5.2 (8 : Int)) * (8 : Int))) ∧ newC HL5 ⟨[(Value.int .u8 (IntKind.wrap .u8 (shrI .u64 n28 (IntKind.wrap .i64 ((Int.tmod t5.2 (8 : Int)) * (8 : Int))))))], .rw, 1⟩ fun o34 H34 => appendC 1 H34 t5.1 ⟨(some ⟨o34, 0, none⟩), 1, 1⟩ fun s35 H35 => it5 (s35, (IntKind.wrap .i64 (t5.2 + (1 : Int)))) H35) (k t5.1 true HL5)
def span_Read.b (x0 : Sl) (x1 : Int) (x2 : Int) (H : AH) (k : Sl → Bool → AH → Prop) : Prop :=
  span_within x0 x1 x2 H fun b13 H13 => bcase (!b13) (k ⟨none, 0, 0⟩ false H13) (loopT (span_Read.l1 x0 x1 x2 k) ((⟨none, 0, 0⟩, x1) : Sl × Int) H13)
def span_Read.ann : Ann := { keep := fun r => match r with | 5 => [(8, .sl), (9, .int .i64)] | _ => [], ord := fun r => match r with  | _ => [] }
theorem span_Read.link {x0 : Sl} {x1 : Int} {x2 : Int} {H : AH} {k : Sl → Bool → AH → Prop} (h : span_Read.b x0 x1 x2 H k) : span_Read x0 x1 x2 H k := by
  have e : wpC Try.prog T pan Try.f43.ntmps span_Read.ann (Try.f43.body.getD .skip) (argFr [(Sl.val x0), (Value.int .i64 x1), (Value.int .i64 x2)]) H (bodyK T Try.f43.results.toList fun e H' => out2 .sl .bool e noPan (fun r0 r1 => k r0 r1 H')) = span_Read.b x0 x1 x2 H k := by kernel_rfl
  have h1 : LCalls Try.prog 43 [(Sl.val x0), (Value.int .i64 x1), (Value.int .i64 x2)] H (fun e H' => out2 .sl .bool e noPan (fun r0 r1 => k r0 r1 H')) := lcalls_of hT hm Try.func43 (by kernel_rfl) span_Read.ann (Nat.le_of_ble_eq_true (by kernel_rfl)) (e.mpr h)
  exact h1.mono fun _ _ hq => out2_in (fun h => by cases h) (fun h => by cases h) hq

def span_Edits.j1 (x1 : Int) (t5 : Sl × Int) (it5 : (Sl × Int) → AH → Prop) (n25 : Int) (x8 : Sl) (Hj : AH) : Prop :=
  (0 ≤ (IntKind.wrap .i64 (((x8.n : Nat) : Int) - (1 : Int))) ∧ (IntKind.wrap .i64 (((x8.n : Nat) : Int) - (1 : Int))) < ((x8.n : Nat) : Int)) ∧ onPtr x8.a fun a59 => elI .u64 (AH.cell? Hj (Addr.add (Addr.add a59 (Int.toNat (IntKind.wrap .i64 (((x8.n : Nat) : Int) - (1 : Int))) * 2)) 1)) fun n64 => ((8 : Int) : Int) ≠ 0 ∧ (0 : Int) ≤ (IntKind.wrap .i64 ((Int.tmod (IntKind.wrap .i64 (x1 + t5.2)) (8 : Int)) * (8 : Int))) ∧ ((8 : Int) : Int) ≠ 0 ∧ (0 : Int) ≤ (IntKind.wrap .i64 ((Int.tmod (IntKind.wrap .i64 (x1 + t5.2)) (8 : Int)) * (8 : Int))) ∧ stC Hj (Addr.add (Addr.add a59 (Int.toNat (IntKind.wrap .i64 (((x8.n : Nat) : Int) - (1 : Int))) * 2)) 1) [(Value.int .u64 (orI .u64 (andNotI .u64 n64 (shlI .u64 (255 : Int) (IntKind.wrap .i64 ((Int.tmod (IntKind.wrap .i64 (x1 + t5.2)) (8 : Int)) * (8 : Int))))) (shlI .u64 (IntKind.wrap .u64 n25) (IntKind.wrap .i64 ((Int.tmod (IntKind.wrap .i64 (x1 + t5.2)) (8 : Int)) * (8 : Int))))))] fun Hs2 => it5 (x8, (IntKind.wrap .i64 (t5.2 + (1 : Int)))) Hs2
def span_Edits.j2 (x0 : Sl) (x1 : Int) (t5 : Sl × Int) (it5 : (Sl × Int) → AH → Prop) (HL5 : AH) (n25 : Int) (x43 : Bool) : Prop :=
  bcase x43 (((8 : Int) : Int) ≠ 0 ∧ ((8 : Int) : Int) ≠ 0 ∧ (0 ≤ (IntKind.wrap .i64 (Int.tdiv (IntKind.wrap .i64 (x1 + t5.2)) (8 : Int))) ∧ (IntKind.wrap .i64 (Int.tdiv (IntKind.wrap .i64 (x1 + t5.2)) (8 : Int))) < ((x0.n : Nat) : Int)) ∧ onPtr x0.a fun a50 => elI .u64 (AH.cell? HL5 (Addr.add a50 (Int.toNat (IntKind.wrap .i64 (Int.tdiv (IntKind.wrap .i64 (x1 + t5.2)) (8 : Int))) * 1))) fun n51 => (List.length [(Value.int .i64 (IntKind.wrap .i64 (Int.tdiv (IntKind.wrap .i64 (x1 + t5.2)) (8 : Int)))), (Value.int .u64 n51)] = 2) ∧ newC HL5 ⟨[(Value.int .i64 (IntKind.wrap .i64 (Int.tdiv (IntKind.wrap .i64 (x1 + t5.2)) (8 : Int)))), (Value.int .u64 n51)], .rw, 2⟩ fun o53 H53 => appendC 2 H53 t5.1 ⟨(some ⟨o53, 0, none⟩), 1, 1⟩ fun s54 H54 => span_Edits.j1 x1 t5 it5 n25 s54 H54) (span_Edits.j1 x1 t5 it5 n25 t5.1 HL5)
def span_Edits.l3 (x0 : Sl) (x1 : Int) (x2 : Sl) (k : Sl → Bool → AH → Prop) (t5 : Sl × Int) (HL5 : AH) (it5 : (Sl × Int) → AH → Prop) : Prop :=
  bcase (decide ((t5.2 : Int) < ((x2.n : Nat) : Int))) ((0 ≤ t5.2 ∧ t5.2 < ((x2.n : Nat) : Int)) ∧ onPtr x2.a fun a24 => elI .u8 (AH.cell? HL5 (Addr.add a24 (Int.toNat t5.2 * 1))) fun n25 => bcase ((((t5.1.n : Nat) : Int) : Int) == (0 : Int)) (span_Edits.j2 x0 x1 t5 it5 HL5 n25 true) ((0 ≤ (IntKind.wrap .i64 (((t5.1.n : Nat) : Int) - (1 : Int))) ∧ (IntKind.wrap .i64 (((t5.1.n : Nat) : Int) - (1 : Int))) < ((t5.1.n : Nat) : Int)) ∧ onPtr t5.1.a fun a37 => elI .i64 (AH.cell? HL5 (Addr.add (Addr.add a37 (Int.toNat (IntKind.wrap .i64 (((t5.1.n : Nat) : Int) - (1 : Int))) * 2)) 0)) fun n39 => ((8 : Int) : Int) ≠ 0 ∧ span_Edits.j2 x0 x1 t5 it5 HL5 n25 ((n39 : Int) != (IntKind.wrap .i64 (Int.tdiv (IntKind.wrap .i64 (x1 + t5.2)) (8 : Int)))))) (k t5.1 true HL5)
def span_Edits.b (x0 : Sl) (x1 : Int) (x2 : Sl) (H : AH) (k : Sl → Bool → AH → Prop) : Prop :=
  span_within x0 x1 ((x2.n : Nat) : Int) H fun b17 H17 => bcase (!b17) (k ⟨none, 0, 0⟩ false H17) (loopT (span_Edits.l3 x0 x1 x2 k) ((⟨none, 0, 0⟩, (0 : Int)) : Sl × Int) H17)
def span_Edits.ann : Ann := { keep := fun r => match r with | 5 => [(8, .sl), (21, .int .i64)] | _ => [], ord := fun r => match r with | 11 => [0, 1, 2, 3, 4, 5, 6, 7, 8, 9, 10, 11, 12, 13, 14, 15, 16, 17, 18, 19] | _ => [] }
theorem span_Edits.link {x0 : Sl} {x1 : Int} {x2 : Sl} {H : AH} {k : Sl → Bool → AH → Prop} (h : span_Edits.b x0 x1 x2 H k) : span_Edits x0 x1 x2 H k := by
  have e : wpC Try.prog T pan Try.f45.ntmps span_Edits.ann (Try.f45.body.getD .skip) (argFr [(Sl.val x0), (Value.int .i64 x1), (Sl.val x2)]) H (bodyK T Try.f45.results.toList fun e H' => out2 .sl .bool e noPan (fun r0 r1 => k r0 r1 H')) = span_Edits.b x0 x1 x2 H k := by kernel_rfl
  have h1 : LCalls Try.prog 45 [(Sl.val x0), (Value.int .i64 x1), (Sl.val x2)] H (fun e H' => out2 .sl .bool e noPan (fun r0 r1 => k r0 r1 H')) := lcalls_of hT hm Try.func45 (by kernel_rfl) span_Edits.ann (Nat.le_of_ble_eq_true (by kernel_rfl)) (e.mpr h)
  exact h1.mono fun _ _ hq => out2_in (fun h => by cases h) (fun h => by cases h) hq

def darninglaw18_awake.b (H : AH) (k : Bool → AH → Prop) : Prop :=
  span_Pieces (6 : Int) (4 : Int) H fun s6 H6 => newC H6 ⟨[(Value.int .u64 (578437695752307201 : Int))], .rw, 1⟩ fun o8 H8 => span_Read ⟨(some ⟨o8, 0, none⟩), 1, 1⟩ (2 : Int) (3 : Int) H8 fun s9a b9b H9 => newC H9 ⟨[(Value.int .u64 (0 : Int))], .rw, 1⟩ fun o13 H13 => newC H13 ⟨[(Value.int .u8 (5 : Int))], .rw, 1⟩ fun o14 H14 => span_Edits ⟨(some ⟨o13, 0, none⟩), 1, 1⟩ (1 : Int) ⟨(some ⟨o14, 0, none⟩), 1, 1⟩ H14 fun s15a b15b H15 => bcase ((((s6.n : Nat) : Int) : Int) == (2 : Int)) ((0 ≤ (0 : Int) ∧ (0 : Int) < ((s6.n : Nat) : Int)) ∧ onPtr s6.a fun a23 => ldA H15 (Addr.add a23 (Int.toNat (0 : Int) * 3)) 3 fun c24 => elO (eqCells [(K.int .i64), (K.int .i64), (K.int .i64)] c24 [(Value.int .i64 (0 : Int)), (Value.int .i64 (6 : Int)), (Value.int .i64 (2 : Int))]) fun e26 => bcase e26 ((0 ≤ (1 : Int) ∧ (1 : Int) < ((s6.n : Nat) : Int)) ∧ onPtr s6.a fun a30 => ldA H15 (Addr.add a30 (Int.toNat (1 : Int) * 3)) 3 fun c31 => elO (eqCells [(K.int .i64), (K.int .i64), (K.int .i64)] c31 [(Value.int .i64 (1 : Int)), (Value.int .i64 (0 : Int)), (Value.int .i64 (2 : Int))]) fun e33 => bcase e33 (bcase b9b (strC H15 s9a fun y40 => bcase (ByteArray.toList ⟨List.toArray y40⟩ == ByteArray.toList ⟨#[3, 4, 5]⟩) (bcase b15b (bcase ((((s15a.n : Nat) : Int) : Int) == (1 : Int)) ((0 ≤ (0 : Int) ∧ (0 : Int) < ((s15a.n : Nat) : Int)) ∧ onPtr s15a.a fun a53 => elI .u64 (AH.cell? H15 (Addr.add (Addr.add a53 (Int.toNat (0 : Int) * 2)) 1)) fun n55 => k ((n55 : Int) == (1280 : Int)) H15) (k false H15)) (k false H15)) (k false H15)) (k false H15)) (k false H15)) (k false H15)) (k false H15)
def darninglaw18_awake.ann : Ann := { keep := fun r => match r with  | _ => [], ord := fun r => match r with  | _ => [] }
theorem darninglaw18_awake.link {_u : Unit} {H : AH} {k : Bool → AH → Prop} (h : darninglaw18_awake.b  H k) : darninglaw18_awake  H k := by
  have e : wpC Try.prog T pan Try.f40.ntmps darninglaw18_awake.ann (Try.f40.body.getD .skip) (argFr []) H (bodyK T Try.f40.results.toList fun e H' => out1 .bool e noPan (fun r0 => k r0 H')) = darninglaw18_awake.b  H k := by kernel_rfl
  have h1 : LCalls Try.prog 40 [] H (fun e H' => out1 .bool e noPan (fun r0 => k r0 H')) := lcalls_of hT hm Try.func40 (by kernel_rfl) darninglaw18_awake.ann (Nat.le_of_ble_eq_true (by kernel_rfl)) (e.mpr h)
  exact h1.mono fun _ _ hq => out1_in (fun h => by cases h) hq

def darningref4_Pieces.l1 (k : Sl → AH → Prop) (t4 : Int × Int × Sl) (HL4 : AH) (it4 : (Int × Int × Sl) → AH → Prop) : Prop :=
  bcase (decide ((t4.2.1 : Int) > (0 : Int))) (((8 : Int) : Int) ≠ 0 ∧ ((8 : Int) : Int) ≠ 0 ∧ ((8 : Int) : Int) ≠ 0 ∧ (List.length [(Value.int .i64 (IntKind.wrap .i64 (Int.tdiv t4.1 (8 : Int)))), (Value.int .i64 (Int.tmod t4.1 (8 : Int))), (Value.int .i64 (if (IntKind.wrap .i64 ((8 : Int) - (Int.tmod t4.1 (8 : Int)))) < t4.2.1 then (IntKind.wrap .i64 ((8 : Int) - (Int.tmod t4.1 (8 : Int)))) else t4.2.1))] = 3) ∧ newC HL4 ⟨[(Value.int .i64 (IntKind.wrap .i64 (Int.tdiv t4.1 (8 : Int)))), (Value.int .i64 (Int.tmod t4.1 (8 : Int))), (Value.int .i64 (if (IntKind.wrap .i64 ((8 : Int) - (Int.tmod t4.1 (8 : Int)))) < t4.2.1 then (IntKind.wrap .i64 ((8 : Int) - (Int.tmod t4.1 (8 : Int)))) else t4.2.1))], .rw, 3⟩ fun o35 H35 => appendC 3 H35 t4.2.2 ⟨(some ⟨o35, 0, none⟩), 1, 1⟩ fun s36 H36 => it4 ((IntKind.wrap .i64 (t4.1 + (if (IntKind.wrap .i64 ((8 : Int) - (Int.tmod t4.1 (8 : Int)))) < t4.2.1 then (IntKind.wrap .i64 ((8 : Int) - (Int.tmod t4.1 (8 : Int)))) else t4.2.1))), (IntKind.wrap .i64 (t4.2.1 - (if (IntKind.wrap .i64 ((8 : Int) - (Int.tmod t4.1 (8 : Int)))) < t4.2.1 then (IntKind.wrap .i64 ((8 : Int) - (Int.tmod t4.1 (8 : Int)))) else t4.2.1))), s36) H36) (k t4.2.2 HL4)
def darningref4_Pieces.j2 (x0 : Int) (x1 : Int) (H : AH) (k : Sl → AH → Prop) (x20 : Bool) : Prop :=
  bcase x20 (k ⟨none, 0, 0⟩ H) (loopT (darningref4_Pieces.l1 k) ((x0, x1, ⟨none, 0, 0⟩) : Int × Int × Sl) H)
def darningref4_Pieces.b (x0 : Int) (x1 : Int) (H : AH) (k : Sl → AH → Prop) : Prop :=
  bcase (decide ((x0 : Int) < (0 : Int))) (darningref4_Pieces.j2 x0 x1 H k true) (bcase (decide ((x1 : Int) < (0 : Int))) (darningref4_Pieces.j2 x0 x1 H k true) (bcase (decide ((x0 : Int) > (1000000 : Int))) (darningref4_Pieces.j2 x0 x1 H k true) (darningref4_Pieces.j2 x0 x1 H k (decide ((x1 : Int) > (448 : Int))))))
def darningref4_Pieces.ann : Ann := { keep := fun r => match r with | 4 => [(0, .int .i64), (1, .int .i64), (5, .sl)] | _ => [], ord := fun r => match r with  | _ => [] }
theorem darningref4_Pieces.link {x0 : Int} {x1 : Int} {H : AH} {k : Sl → AH → Prop} (h : darningref4_Pieces.b x0 x1 H k) : darningref4_Pieces x0 x1 H k := by
  have e : wpC Try.prog T pan Try.f42.ntmps darningref4_Pieces.ann (Try.f42.body.getD .skip) (argFr [(Value.int .i64 x0), (Value.int .i64 x1)]) H (bodyK T Try.f42.results.toList fun e H' => out1 .sl e noPan (fun r0 => k r0 H')) = darningref4_Pieces.b x0 x1 H k := by kernel_rfl
  have h1 : LCalls Try.prog 42 [(Value.int .i64 x0), (Value.int .i64 x1)] H (fun e H' => out1 .sl e noPan (fun r0 => k r0 H')) := lcalls_of hT hm Try.func42 (by kernel_rfl) darningref4_Pieces.ann (Nat.le_of_ble_eq_true (by kernel_rfl)) (e.mpr h)
  exact h1.mono fun _ _ hq => out1_in (fun h => by cases h) hq

def darningref4_SameEdits.l1 (x0 : Sl) (x1 : Sl) (k : Bool → AH → Prop) (t4 : Bool × Int) (HL4 : AH) (it4 : (Bool × Int) → AH → Prop) : Prop :=
  bcase (decide ((t4.2 : Int) < ((x0.n : Nat) : Int))) ((0 ≤ t4.2 ∧ t4.2 < ((x0.n : Nat) : Int)) ∧ onPtr x0.a fun a18 => ldA HL4 (Addr.add a18 (Int.toNat t4.2 * 2)) 2 fun c19 => (0 ≤ t4.2 ∧ t4.2 < ((x1.n : Nat) : Int)) ∧ onPtr x1.a fun a22 => ldA HL4 (Addr.add a22 (Int.toNat t4.2 * 2)) 2 fun c23 => elO (eqCells [(K.int .i64), (K.int .u64)] c19 c23) fun e24 => bcase (!e24) (k false HL4) (it4 (t4.1, (IntKind.wrap .i64 (t4.2 + (1 : Int)))) HL4)) (k true HL4)
def darningref4_SameEdits.b (x0 : Sl) (x1 : Sl) (H : AH) (k : Bool → AH → Prop) : Prop :=
  bcase ((((x0.n : Nat) : Int) : Int) != ((x1.n : Nat) : Int)) (k false H) (loopT (darningref4_SameEdits.l1 x0 x1 k) ((false, (0 : Int)) : Bool × Int) H)
def darningref4_SameEdits.ann : Ann := { keep := fun r => match r with | 4 => [(4, .bool), (13, .int .i64)] | _ => [], ord := fun r => match r with | 6 => [0, 1, 2, 3, 4, 5, 6, 7, 8] | _ => [] }
theorem darningref4_SameEdits.link {x0 : Sl} {x1 : Sl} {H : AH} {k : Bool → AH → Prop} (h : darningref4_SameEdits.b x0 x1 H k) : darningref4_SameEdits x0 x1 H k := by
  have e : wpC Try.prog T pan Try.f47.ntmps darningref4_SameEdits.ann (Try.f47.body.getD .skip) (argFr [(Sl.val x0), (Sl.val x1)]) H (bodyK T Try.f47.results.toList fun e H' => out1 .bool e noPan (fun r0 => k r0 H')) = darningref4_SameEdits.b x0 x1 H k := by kernel_rfl
  have h1 : LCalls Try.prog 47 [(Sl.val x0), (Sl.val x1)] H (fun e H' => out1 .bool e noPan (fun r0 => k r0 H')) := lcalls_of hT hm Try.func47 (by kernel_rfl) darningref4_SameEdits.ann (Nat.le_of_ble_eq_true (by kernel_rfl)) (e.mpr h)
  exact h1.mono fun _ _ hq => out1_in (fun h => by cases h) hq

def slices_Clone_uint64uint64.b (x0 : Sl) (H : AH) (k : Sl → AH → Prop) : Prop :=
  bcase (Option.isNone x0.a) (k ⟨none, 0, 0⟩ H) (newC H ⟨[], .rw, 1⟩ fun o5 H5 => appendC 1 H5 ⟨(some ⟨o5, 0, none⟩), 0, 1⟩ x0 fun s7 H7 => k s7 H7)
def slices_Clone_uint64uint64.ann : Ann := { keep := fun r => match r with  | _ => [], ord := fun r => match r with  | _ => [] }
theorem slices_Clone_uint64uint64.link {x0 : Sl} {H : AH} {k : Sl → AH → Prop} (h : slices_Clone_uint64uint64.b x0 H k) : slices_Clone_uint64uint64 x0 H k := by
  have e : wpC Try.prog T pan Try.f83.ntmps slices_Clone_uint64uint64.ann (Try.f83.body.getD .skip) (argFr [(Sl.val x0)]) H (bodyK T Try.f83.results.toList fun e H' => out1 .sl e noPan (fun r0 => k r0 H')) = slices_Clone_uint64uint64.b x0 H k := by kernel_rfl
  have h1 : LCalls Try.prog 83 [(Sl.val x0)] H (fun e H' => out1 .sl e noPan (fun r0 => k r0 H')) := lcalls_of hT hm Try.func83 (by kernel_rfl) slices_Clone_uint64uint64.ann (Nat.le_of_ble_eq_true (by kernel_rfl)) (e.mpr h)
  exact h1.mono fun _ _ hq => out1_in (fun h => by cases h) hq

def span_Apply.j1 (s9 : Sl) (t3 : Int) (it3 : (Int) → AH → Prop) (o7 : Nat) (Hs2 : AH) (x25 : Bool) : Prop :=
  bcase x25 (elI .i64 (AH.cell? Hs2 (Addr.add ⟨o7, 0, none⟩ 0)) fun n28 => elI .u64 (AH.cell? Hs2 (Addr.add ⟨o7, 0, none⟩ 1)) fun n30 => (0 ≤ n28 ∧ n28 < ((s9.n : Nat) : Int)) ∧ onPtr s9.a fun a31 => stC Hs2 (Addr.add a31 (Int.toNat n28 * 1)) [(Value.int .u64 n30)] fun Hs4 => it3 (IntKind.wrap .i64 (t3 + (1 : Int))) Hs4) (it3 (IntKind.wrap .i64 (t3 + (1 : Int))) Hs2)
def span_Apply.l2 (x1 : Sl) (k : Sl → AH → Prop) (s9 : Sl) (t3 : Int) (HL3 : AH) (it3 : (Int) → AH → Prop) : Prop :=
  bcase (decide ((t3 : Int) < ((x1.n : Nat) : Int))) ((0 ≤ t3 ∧ t3 < ((x1.n : Nat) : Int)) ∧ onPtr x1.a fun a14 => ldA HL3 (Addr.add a14 (Int.toNat t3 * 2)) 2 fun c15 => newC HL3 ⟨[(Value.int .i64 (0 : Int)), (Value.int .u64 (0 : Int))], .rw, 0⟩ fun o7 H7 => (List.length c15 = 2 ∧ List.all c15 cellOK = true) ∧ stC H7 ⟨o7, 0, none⟩ c15 fun Hs2 => elI .i64 (AH.cell? Hs2 (Addr.add ⟨o7, 0, none⟩ 0)) fun n17 => bcase (decide ((n17 : Int) ≥ (0 : Int))) (elI .i64 (AH.cell? Hs2 (Addr.add ⟨o7, 0, none⟩ 0)) fun n21 => span_Apply.j1 s9 t3 it3 o7 Hs2 (decide ((n21 : Int) < ((s9.n : Nat) : Int)))) (span_Apply.j1 s9 t3 it3 o7 Hs2 false)) (k s9 HL3)
def span_Apply.b (x0 : Sl) (x1 : Sl) (H : AH) (k : Sl → AH → Prop) : Prop :=
  slices_Clone_uint64uint64 x0 H fun s9 H9 => loopT (span_Apply.l2 x1 k s9) (((0 : Int)) : Int) H9
def span_Apply.ann : Ann := { keep := fun r => match r with | 3 => [(12, .int .i64)] | _ => [], ord := fun r => match r with  | _ => [] }
theorem span_Apply.link {x0 : Sl} {x1 : Sl} {H : AH} {k : Sl → AH → Prop} (h : span_Apply.b x0 x1 H k) : span_Apply x0 x1 H k := by
  have e : wpC Try.prog T pan Try.f49.ntmps span_Apply.ann (Try.f49.body.getD .skip) (argFr [(Sl.val x0), (Sl.val x1)]) H (bodyK T Try.f49.results.toList fun e H' => out1 .sl e noPan (fun r0 => k r0 H')) = span_Apply.b x0 x1 H k := by kernel_rfl
  have h1 : LCalls Try.prog 49 [(Sl.val x0), (Sl.val x1)] H (fun e H' => out1 .sl e noPan (fun r0 => k r0 H')) := lcalls_of hT hm Try.func49 (by kernel_rfl) span_Apply.ann (Nat.le_of_ble_eq_true (by kernel_rfl)) (e.mpr h)
  exact h1.mono fun _ _ hq => out1_in (fun h => by cases h) hq

def darningref4_SameWords.l1 (x0 : Sl) (x1 : Sl) (k : Bool → AH → Prop) (t4 : Bool × Int) (HL4 : AH) (it4 : (Bool × Int) → AH → Prop) : Prop :=
  bcase (decide ((t4.2 : Int) < ((x0.n : Nat) : Int))) ((0 ≤ t4.2 ∧ t4.2 < ((x0.n : Nat) : Int)) ∧ onPtr x0.a fun a18 => elI .u64 (AH.cell? HL4 (Addr.add a18 (Int.toNat t4.2 * 1))) fun n19 => (0 ≤ t4.2 ∧ t4.2 < ((x1.n : Nat) : Int)) ∧ onPtr x1.a fun a22 => elI .u64 (AH.cell? HL4 (Addr.add a22 (Int.toNat t4.2 * 1))) fun n23 => bcase ((n19 : Int) != n23) (k false HL4) (it4 (t4.1, (IntKind.wrap .i64 (t4.2 + (1 : Int)))) HL4)) (k true HL4)
def darningref4_SameWords.b (x0 : Sl) (x1 : Sl) (H : AH) (k : Bool → AH → Prop) : Prop :=
  bcase ((((x0.n : Nat) : Int) : Int) != ((x1.n : Nat) : Int)) (k false H) (loopT (darningref4_SameWords.l1 x0 x1 k) ((false, (0 : Int)) : Bool × Int) H)
def darningref4_SameWords.ann : Ann := { keep := fun r => match r with | 4 => [(4, .bool), (13, .int .i64)] | _ => [], ord := fun r => match r with | 6 => [0, 1, 2, 3, 4, 5, 6, 7, 8] | _ => [] }
theorem darningref4_SameWords.link {x0 : Sl} {x1 : Sl} {H : AH} {k : Bool → AH → Prop} (h : darningref4_SameWords.b x0 x1 H k) : darningref4_SameWords x0 x1 H k := by
  have e : wpC Try.prog T pan Try.f48.ntmps darningref4_SameWords.ann (Try.f48.body.getD .skip) (argFr [(Sl.val x0), (Sl.val x1)]) H (bodyK T Try.f48.results.toList fun e H' => out1 .bool e noPan (fun r0 => k r0 H')) = darningref4_SameWords.b x0 x1 H k := by kernel_rfl
  have h1 : LCalls Try.prog 48 [(Sl.val x0), (Sl.val x1)] H (fun e H' => out1 .bool e noPan (fun r0 => k r0 H')) := lcalls_of hT hm Try.func48 (by kernel_rfl) darningref4_SameWords.ann (Nat.le_of_ble_eq_true (by kernel_rfl)) (e.mpr h)
  exact h1.mono fun _ _ hq => out1_in (fun h => by cases h) hq

def span_Lines.j1 (k : Sl → AH → Prop) (t3 : Sl × Int) (HL3 : AH) : Prop :=
  slices_Sort_intint t3.1 HL3 fun H23 => slices_Compact_intint t3.1 H23 fun s25 H25 => k s25 H25
def span_Lines.l2 (x0 : Sl) (k : Sl → AH → Prop) (t3 : Sl × Int) (HL3 : AH) (it3 : (Sl × Int) → AH → Prop) : Prop :=
  bcase (decide ((t3.2 : Int) < ((x0.n : Nat) : Int))) ((0 ≤ t3.2 ∧ t3.2 < ((x0.n : Nat) : Int)) ∧ onPtr x0.a fun a10 => ldA HL3 (Addr.add a10 (Int.toNat t3.2 * 2)) 2 fun c11 => newC HL3 ⟨[(Value.int .i64 (0 : Int)), (Value.int .u64 (0 : Int))], .rw, 0⟩ fun o5 H5 => (List.length c11 = 2 ∧ List.all c11 cellOK = true) ∧ stC H5 ⟨o5, 0, none⟩ c11 fun Hs2 => elI .i64 (AH.cell? Hs2 (Addr.add ⟨o5, 0, none⟩ 0)) fun n13 => bcase (decide ((n13 : Int) ≥ (0 : Int))) (elI .i64 (AH.cell? Hs2 (Addr.add ⟨o5, 0, none⟩ 0)) fun n17 => ((8 : Int) : Int) ≠ 0 ∧ newC Hs2 ⟨[(Value.int .i64 (IntKind.wrap .i64 (Int.tdiv n17 (8 : Int))))], .rw, 1⟩ fun o19 H19 => appendC 1 H19 t3.1 ⟨(some ⟨o19, 0, none⟩), 1, 1⟩ fun s20 H20 => it3 (s20, (IntKind.wrap .i64 (t3.2 + (1 : Int)))) H20) (it3 (t3.1, (IntKind.wrap .i64 (t3.2 + (1 : Int)))) Hs2)) (span_Lines.j1 k t3 HL3)
def span_Lines.b (x0 : Sl) (H : AH) (k : Sl → AH → Prop) : Prop :=
  loopT (span_Lines.l2 x0 k) ((⟨none, 0, 0⟩, (0 : Int)) : Sl × Int) H
def span_Lines.ann : Ann := { keep := fun r => match r with | 3 => [(3, .sl), (8, .int .i64)] | _ => [], ord := fun r => match r with  | _ => [] }
theorem span_Lines.link {x0 : Sl} {H : AH} {k : Sl → AH → Prop} (h : span_Lines.b x0 H k) : span_Lines x0 H k := by
  have e : wpC Try.prog T pan Try.f52.ntmps span_Lines.ann (Try.f52.body.getD .skip) (argFr [(Sl.val x0)]) H (bodyK T Try.f52.results.toList fun e H' => out1 .sl e noPan (fun r0 => k r0 H')) = span_Lines.b x0 H k := by kernel_rfl
  have h1 : LCalls Try.prog 52 [(Sl.val x0)] H (fun e H' => out1 .sl e noPan (fun r0 => k r0 H')) := lcalls_of hT hm Try.func52 (by kernel_rfl) span_Lines.ann (Nat.le_of_ble_eq_true (by kernel_rfl)) (e.mpr h)
  exact h1.mono fun _ _ hq => out1_in (fun h => by cases h) hq

def darningref4_EditLines.j1 (t3 : Sl × Int) (it3 : (Sl × Int) → AH → Prop) (n18 : Int) (t7 : Int) (HL7 : AH) (x45 : Bool) : Prop :=
  bcase x45 ((0 ≤ t7 ∧ t7 ≤ ((t3.1.n : Nat) : Int)) ∧ newC HL7 ⟨[(Value.int .i64 (IntKind.wrap .i64 (Int.tdiv n18 (8 : Int))))], .rw, 1⟩ fun o51 H51 => (0 ≤ t7 ∧ t7 ≤ ((t3.1.n : Nat) : Int)) ∧ appendC 1 H51 ⟨none, 0, 0⟩ ⟨t3.1.a, (Int.toNat t7), 0⟩ fun s49 H49 => appendC 1 H49 s49 ⟨(some ⟨o51, 0, none⟩), 1, 1⟩ fun s52 H52 => appendC 1 H52 s52 ⟨(Option.map (fun x => Addr.add x (Int.toNat t7 * 1)) t3.1.a), (t3.1.n - Int.toNat t7), 0⟩ fun s56 H56 => it3 (s56, (IntKind.wrap .i64 (t3.2 + (1 : Int)))) H56) (it3 (t3.1, (IntKind.wrap .i64 (t3.2 + (1 : Int)))) HL7)
def darningref4_EditLines.j2 (t3 : Sl × Int) (it3 : (Sl × Int) → AH → Prop) (n18 : Int) (t7 : Int) (HL7 : AH) : Prop :=
  bcase ((t7 : Int) == ((t3.1.n : Nat) : Int)) (darningref4_EditLines.j1 t3 it3 n18 t7 HL7 true) ((0 ≤ t7 ∧ t7 < ((t3.1.n : Nat) : Int)) ∧ onPtr t3.1.a fun a41 => elI .i64 (AH.cell? HL7 (Addr.add a41 (Int.toNat t7 * 1))) fun n42 => darningref4_EditLines.j1 t3 it3 n18 t7 HL7 ((n42 : Int) != (IntKind.wrap .i64 (Int.tdiv n18 (8 : Int)))))
def darningref4_EditLines.j3 (t3 : Sl × Int) (it3 : (Sl × Int) → AH → Prop) (n18 : Int) (t7 : Int) (it7 : (Int) → AH → Prop) (HL7 : AH) (x31 : Bool) : Prop :=
  bcase x31 (it7 (IntKind.wrap .i64 (t7 + (1 : Int))) HL7) (darningref4_EditLines.j2 t3 it3 n18 t7 HL7)
def darningref4_EditLines.l4 (t3 : Sl × Int) (it3 : (Sl × Int) → AH → Prop) (n18 : Int) (t7 : Int) (HL7 : AH) (it7 : (Int) → AH → Prop) : Prop :=
  bcase (decide ((t7 : Int) < ((t3.1.n : Nat) : Int))) ((0 ≤ t7 ∧ t7 < ((t3.1.n : Nat) : Int)) ∧ onPtr t3.1.a fun a27 => elI .i64 (AH.cell? HL7 (Addr.add a27 (Int.toNat t7 * 1))) fun n28 => darningref4_EditLines.j3 t3 it3 n18 t7 it7 HL7 (decide ((n28 : Int) < (IntKind.wrap .i64 (Int.tdiv n18 (8 : Int)))))) (darningref4_EditLines.j3 t3 it3 n18 t7 it7 HL7 false)
def darningref4_EditLines.l5 (x0 : Sl) (k : Sl → AH → Prop) (t3 : Sl × Int) (HL3 : AH) (it3 : (Sl × Int) → AH → Prop) : Prop :=
  bcase (decide ((t3.2 : Int) < ((x0.n : Nat) : Int))) ((0 ≤ t3.2 ∧ t3.2 < ((x0.n : Nat) : Int)) ∧ onPtr x0.a fun a12 => ldA HL3 (Addr.add a12 (Int.toNat t3.2 * 2)) 2 fun c13 => newC HL3 ⟨[(Value.int .i64 (0 : Int)), (Value.int .u64 (0 : Int))], .rw, 0⟩ fun o5 H5 => (List.length c13 = 2 ∧ List.all c13 cellOK = true) ∧ stC H5 ⟨o5, 0, none⟩ c13 fun Hs2 => elI .i64 (AH.cell? Hs2 (Addr.add ⟨o5, 0, none⟩ 0)) fun n15 => bcase (decide ((n15 : Int) < (0 : Int))) (it3 (t3.1, (IntKind.wrap .i64 (t3.2 + (1 : Int)))) Hs2) (elI .i64 (AH.cell? Hs2 (Addr.add ⟨o5, 0, none⟩ 0)) fun n18 => ((8 : Int) : Int) ≠ 0 ∧ loopT (darningref4_EditLines.l4 t3 it3 n18) (((0 : Int)) : Int) Hs2)) (k t3.1 HL3)
def darningref4_EditLines.b (x0 : Sl) (H : AH) (k : Sl → AH → Prop) : Prop :=
  loopT (darningref4_EditLines.l5 x0 k) ((⟨none, 0, 0⟩, (0 : Int)) : Sl × Int) H
def darningref4_EditLines.ann : Ann := { keep := fun r => match r with | 3 => [(3, .sl), (10, .int .i64)] | 7 => [(7, .int .i64)] | _ => [], ord := fun r => match r with | 10 => [0, 1, 2, 4, 5, 7, 8, 9, 3, 6, 10, 11] | _ => [] }
theorem darningref4_EditLines.link {x0 : Sl} {H : AH} {k : Sl → AH → Prop} (h : darningref4_EditLines.b x0 H k) : darningref4_EditLines x0 H k := by
  have e : wpC Try.prog T pan Try.f53.ntmps darningref4_EditLines.ann (Try.f53.body.getD .skip) (argFr [(Sl.val x0)]) H (bodyK T Try.f53.results.toList fun e H' => out1 .sl e noPan (fun r0 => k r0 H')) = darningref4_EditLines.b x0 H k := by kernel_rfl
  have h1 : LCalls Try.prog 53 [(Sl.val x0)] H (fun e H' => out1 .sl e noPan (fun r0 => k r0 H')) := lcalls_of hT hm Try.func53 (by kernel_rfl) darningref4_EditLines.ann (Nat.le_of_ble_eq_true (by kernel_rfl)) (e.mpr h)
  exact h1.mono fun _ _ hq => out1_in (fun h => by cases h) hq

def darninglaw18_SpanForms.j1 (x0 : Sl) (x1 : Int) (x2 : Int) (x3 : Sl) (x4 : Sl) (k : Bool → AH → Prop) (HL7 : AH) : Prop :=
  span_Read x0 x1 x2 HL7 fun s66a b66b H66 => darningref4_ReadBytes x0 x1 x2 H66 fun s73a b73b H73 => span_Edits x0 x1 x3 H73 fun s80a b80b H80 => darningref4_ByteEdits x0 x1 x3 H80 fun s87a b87b H87 => strC H87 s66a fun y91 => strC H87 s73a fun y93 => bcase (ByteArray.toList ⟨List.toArray y91⟩ == ByteArray.toList ⟨List.toArray y93⟩) (bcase (b66b == b73b) (darningref4_SameEdits s80a s87a H87 fun b103 H103 => bcase b103 (bcase (b80b == b87b) (span_Apply x0 x4 H103 fun s113 H113 => darningref4_Apply x0 x4 H113 fun s116 H116 => darningref4_SameWords s113 s116 H116 fun b117 H117 => bcase b117 (span_Lines x4 H117 fun s121 H121 => darningref4_EditLines x4 H121 fun s123 H123 => darningref1_Ints s121 s123 H123 fun b124 H124 => bcase b124 (darninglaw18_awake  H124 fun b127 H127 => k b127 H127) (k false H124)) (k false H117)) (k false H103)) (k false H103)) (k false H87)) (k false H87)
def darninglaw18_SpanForms.l2 (x0 : Sl) (x1 : Int) (x2 : Int) (x3 : Sl) (x4 : Sl) (k : Bool → AH → Prop) (s38 : Sl) (s41 : Sl) (t7 : Bool × Int) (HL7 : AH) (it7 : (Bool × Int) → AH → Prop) : Prop :=
  bcase (decide ((t7.2 : Int) < ((s38.n : Nat) : Int))) ((0 ≤ t7.2 ∧ t7.2 < ((s38.n : Nat) : Int)) ∧ onPtr s38.a fun a54 => ldA HL7 (Addr.add a54 (Int.toNat t7.2 * 3)) 3 fun c55 => (0 ≤ t7.2 ∧ t7.2 < ((s41.n : Nat) : Int)) ∧ onPtr s41.a fun a58 => ldA HL7 (Addr.add a58 (Int.toNat t7.2 * 3)) 3 fun c59 => elO (eqCells [(K.int .i64), (K.int .i64), (K.int .i64)] c55 c59) fun e60 => bcase (!e60) (k false HL7) (it7 (t7.1, (IntKind.wrap .i64 (t7.2 + (1 : Int)))) HL7)) (darninglaw18_SpanForms.j1 x0 x1 x2 x3 x4 k HL7)
def darninglaw18_SpanForms.j3 (x0 : Sl) (x1 : Int) (x2 : Int) (x3 : Sl) (x4 : Sl) (H : AH) (k : Bool → AH → Prop) (x34 : Bool) : Prop :=
  bcase x34 (darninglaw18_awake  H fun b35 H35 => k b35 H35) (span_Pieces x1 x2 H fun s38 H38 => darningref4_Pieces x1 x2 H38 fun s41 H41 => bcase ((((s38.n : Nat) : Int) : Int) != ((s41.n : Nat) : Int)) (k false H41) (loopT (darninglaw18_SpanForms.l2 x0 x1 x2 x3 x4 k s38 s41) ((false, (0 : Int)) : Bool × Int) H41))
def darninglaw18_SpanForms.b (x0 : Sl) (x1 : Int) (x2 : Int) (x3 : Sl) (x4 : Sl) (H : AH) (k : Bool → AH → Prop) : Prop :=
  bcase (decide ((((x0.n : Nat) : Int) : Int) > (600 : Int))) (darninglaw18_SpanForms.j3 x0 x1 x2 x3 x4 H k true) (bcase (decide ((((x3.n : Nat) : Int) : Int) > (600 : Int))) (darninglaw18_SpanForms.j3 x0 x1 x2 x3 x4 H k true) (darninglaw18_SpanForms.j3 x0 x1 x2 x3 x4 H k (decide ((((x4.n : Nat) : Int) : Int) > (300 : Int)))))
def darninglaw18_SpanForms.ann : Ann := { keep := fun r => match r with | 7 => [(10, .bool), (49, .int .i64)] | _ => [], ord := fun r => match r with | 9 => [0, 1, 2, 3, 4, 5, 6, 7, 8] | _ => [] }
theorem darninglaw18_SpanForms.link {x0 : Sl} {x1 : Int} {x2 : Int} {x3 : Sl} {x4 : Sl} {H : AH} {k : Bool → AH → Prop} (h : darninglaw18_SpanForms.b x0 x1 x2 x3 x4 H k) : darninglaw18_SpanForms x0 x1 x2 x3 x4 H k := by
  have e : wpC Try.prog T pan Try.f12.ntmps darninglaw18_SpanForms.ann (Try.f12.body.getD .skip) (argFr [(Sl.val x0), (Value.int .i64 x1), (Value.int .i64 x2), (Sl.val x3), (Sl.val x4)]) H (bodyK T Try.f12.results.toList fun e H' => out1 .bool e noPan (fun r0 => k r0 H')) = darninglaw18_SpanForms.b x0 x1 x2 x3 x4 H k := by kernel_rfl
  have h1 : LCalls Try.prog 12 [(Sl.val x0), (Value.int .i64 x1), (Value.int .i64 x2), (Sl.val x3), (Sl.val x4)] H (fun e H' => out1 .bool e noPan (fun r0 => k r0 H')) := lcalls_of hT hm Try.func12 (by kernel_rfl) darninglaw18_SpanForms.ann (Nat.le_of_ble_eq_true (by kernel_rfl)) (e.mpr h)
  exact h1.mono fun _ _ hq => out1_in (fun h => by cases h) hq

def darninglaw18_SpanLines.j1 (k : Bool → AH → Prop) (t8 : Bool × Int) (it8 : (Bool × Int) → AH → Prop) (HL12 : AH) (x62 : Bool) : Prop :=
  bcase x62 (k false HL12) (it8 (t8.1, (IntKind.wrap .i64 (t8.2 + (1 : Int)))) HL12)
def darninglaw18_SpanLines.j2 (x0 : Sl) (k : Bool → AH → Prop) (s25 : Sl) (t8 : Bool × Int) (it8 : (Bool × Int) → AH → Prop) (t12 : Bool × Int) (HL12 : AH) : Prop :=
  bcase (!t12.1) ((0 ≤ t8.2 ∧ t8.2 < ((s25.n : Nat) : Int)) ∧ onPtr s25.a fun a55 => elI .u64 (AH.cell? HL12 (Addr.add a55 (Int.toNat t8.2 * 1))) fun n56 => (0 ≤ t8.2 ∧ t8.2 < ((x0.n : Nat) : Int)) ∧ onPtr x0.a fun a59 => elI .u64 (AH.cell? HL12 (Addr.add a59 (Int.toNat t8.2 * 1))) fun n60 => darninglaw18_SpanLines.j1 k t8 it8 HL12 ((n56 : Int) != n60)) (darninglaw18_SpanLines.j1 k t8 it8 HL12 false)
def darninglaw18_SpanLines.l3 (x0 : Sl) (k : Bool → AH → Prop) (s22 : Sl) (s25 : Sl) (t8 : Bool × Int) (it8 : (Bool × Int) → AH → Prop) (t12 : Bool × Int) (HL12 : AH) (it12 : (Bool × Int) → AH → Prop) : Prop :=
  bcase (decide ((t12.2 : Int) < ((s22.n : Nat) : Int))) ((0 ≤ t12.2 ∧ t12.2 < ((s22.n : Nat) : Int)) ∧ onPtr s22.a fun a40 => elI .i64 (AH.cell? HL12 (Addr.add a40 (Int.toNat t12.2 * 1))) fun n41 => bcase t12.1 (it12 (true, (IntKind.wrap .i64 (t12.2 + (1 : Int)))) HL12) (((8 : Int) : Int) ≠ 0 ∧ it12 (((n41 : Int) == (IntKind.wrap .i64 (Int.tdiv t8.2 (8 : Int)))), (IntKind.wrap .i64 (t12.2 + (1 : Int)))) HL12)) (darninglaw18_SpanLines.j2 x0 k s25 t8 it8 t12 HL12)
def darninglaw18_SpanLines.j4 (x1 : Sl) (k : Bool → AH → Prop) (s22 : Sl) (HL20 : AH) : Prop :=
  bcase (decide ((((s22.n : Nat) : Int) : Int) ≤ ((x1.n : Nat) : Int))) (darninglaw18_awake  HL20 fun b86 H86 => k b86 H86) (k false HL20)
def darninglaw18_SpanLines.l5 (x1 : Sl) (k : Bool → AH → Prop) (s22 : Sl) (t20 : Bool × Int) (HL20 : AH) (it20 : (Bool × Int) → AH → Prop) : Prop :=
  bcase (decide ((t20.2 : Int) < ((s22.n : Nat) : Int))) ((0 ≤ t20.2 ∧ t20.2 < ((s22.n : Nat) : Int)) ∧ onPtr s22.a fun a72 => elI .i64 (AH.cell? HL20 (Addr.add a72 (Int.toNat t20.2 * 1))) fun n73 => (0 ≤ (IntKind.wrap .i64 (t20.2 - (1 : Int))) ∧ (IntKind.wrap .i64 (t20.2 - (1 : Int))) < ((s22.n : Nat) : Int)) ∧ onPtr s22.a fun a77 => elI .i64 (AH.cell? HL20 (Addr.add a77 (Int.toNat (IntKind.wrap .i64 (t20.2 - (1 : Int))) * 1))) fun n78 => bcase (decide ((n73 : Int) ≤ n78)) (k false HL20) (it20 (t20.1, (IntKind.wrap .i64 (t20.2 + (1 : Int)))) HL20)) (darninglaw18_SpanLines.j4 x1 k s22 HL20)
def darninglaw18_SpanLines.l6 (x0 : Sl) (x1 : Sl) (k : Bool → AH → Prop) (s22 : Sl) (s25 : Sl) (t8 : Bool × Int) (HL8 : AH) (it8 : (Bool × Int) → AH → Prop) : Prop :=
  bcase (decide ((t8.2 : Int) < ((x0.n : Nat) : Int))) (loopT (darninglaw18_SpanLines.l3 x0 k s22 s25 t8 it8) ((false, (0 : Int)) : Bool × Int) HL8) (loopT (darninglaw18_SpanLines.l5 x1 k s22) ((t8.1, (1 : Int)) : Bool × Int) HL8)
def darninglaw18_SpanLines.j7 (x0 : Sl) (x1 : Sl) (H : AH) (k : Bool → AH → Prop) (x19 : Bool) : Prop :=
  bcase x19 (darninglaw18_awake  H fun b20 H20 => k b20 H20) (span_Lines x1 H fun s22 H22 => span_Apply x0 x1 H22 fun s25 H25 => bcase ((((s25.n : Nat) : Int) : Int) != ((x0.n : Nat) : Int)) (k false H25) (loopT (darninglaw18_SpanLines.l6 x0 x1 k s22 s25) ((false, (0 : Int)) : Bool × Int) H25))
def darninglaw18_SpanLines.b (x0 : Sl) (x1 : Sl) (H : AH) (k : Bool → AH → Prop) : Prop :=
  bcase (decide ((((x0.n : Nat) : Int) : Int) > (300 : Int))) (darninglaw18_SpanLines.j7 x0 x1 H k true) (darninglaw18_SpanLines.j7 x0 x1 H k (decide ((((x1.n : Nat) : Int) : Int) > (100 : Int))))
def darninglaw18_SpanLines.ann : Ann := { keep := fun r => match r with | 8 => [(4, .bool), (33, .int .i64)] | 12 => [(8, .bool), (38, .int .i64)] | 20 => [(4, .bool), (11, .int .i64)] | _ => [], ord := fun r => match r with | 16 => [0, 1, 2, 3, 4, 5, 6, 7, 8, 9, 10, 11, 12] | 22 => [0, 1, 2, 3, 4, 5, 6, 7, 8, 9] | _ => [] }
theorem darninglaw18_SpanLines.link {x0 : Sl} {x1 : Sl} {H : AH} {k : Bool → AH → Prop} (h : darninglaw18_SpanLines.b x0 x1 H k) : darninglaw18_SpanLines x0 x1 H k := by
  have e : wpC Try.prog T pan Try.f13.ntmps darninglaw18_SpanLines.ann (Try.f13.body.getD .skip) (argFr [(Sl.val x0), (Sl.val x1)]) H (bodyK T Try.f13.results.toList fun e H' => out1 .bool e noPan (fun r0 => k r0 H')) = darninglaw18_SpanLines.b x0 x1 H k := by kernel_rfl
  have h1 : LCalls Try.prog 13 [(Sl.val x0), (Sl.val x1)] H (fun e H' => out1 .bool e noPan (fun r0 => k r0 H')) := lcalls_of hT hm Try.func13 (by kernel_rfl) darninglaw18_SpanLines.ann (Nat.le_of_ble_eq_true (by kernel_rfl)) (e.mpr h)
  exact h1.mono fun _ _ hq => out1_in (fun h => by cases h) hq

end Go.Proofs.Ytgddfhnochcolaa
