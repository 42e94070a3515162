import Derived.Test.YtgechnnadjonaabAbsTwo
import Derived.Test.YtgechnnadjonaabProg
set_option linter.all false
namespace Go.Proofs.Ytgechnnadjonaab
open Go Go.Abs
set_option linter.unusedVariables false
set_option maxRecDepth 100000

def tyL : List (Nat × TyE) := [
  (3, { k := .int .i64, sub := .none, size := 1, bytes := 8, zero := [(Value.int .i64 (0 : Int))], eqs := false }),
  (4, { k := .bool, sub := .none, size := 1, bytes := 1, zero := [(Value.bool false)], eqs := false }),
  (22, { k := .sl, sub := (.elem 3), size := 1, bytes := 24, zero := [(Value.slice none 0 0)], eqs := false }),
  (23, { k := .sl, sub := (.elem 24), size := 1, bytes := 24, zero := [(Value.slice none 0 0)], eqs := false }),
  (24, { k := .sl, sub := (.elem 40), size := 1, bytes := 24, zero := [(Value.slice none 0 0)], eqs := false }),
  (29, { k := .ptr, sub := (.elem 51), size := 1, bytes := 8, zero := [(Value.pointer none)], eqs := false }),
  (30, { k := .ptr, sub := (.elem 61), size := 1, bytes := 8, zero := [(Value.pointer none)], eqs := false }),
  (33, { k := .sl, sub := (.elem 38), size := 1, bytes := 24, zero := [(Value.slice none 0 0)], eqs := false }),
  (34, { k := .int .i64, sub := .none, size := 1, bytes := 8, zero := [(Value.int .i64 (0 : Int))], eqs := false }),
  (36, { k := .int .u64, sub := .none, size := 1, bytes := 8, zero := [(Value.int .u64 (0 : Int))], eqs := false }),
  (38, { k := .agg, sub := (.arr 8 36), size := 8, bytes := 64, zero := [(Value.int .u64 (0 : Int)), (Value.int .u64 (0 : Int)), (Value.int .u64 (0 : Int)), (Value.int .u64 (0 : Int)), (Value.int .u64 (0 : Int)), (Value.int .u64 (0 : Int)), (Value.int .u64 (0 : Int)), (Value.int .u64 (0 : Int))], eqs := true }),
  (40, { k := .agg, sub := (.fields [(0, 3), (1, 38)]), size := 9, bytes := 72, zero := [(Value.int .i64 (0 : Int)), (Value.int .u64 (0 : Int)), (Value.int .u64 (0 : Int)), (Value.int .u64 (0 : Int)), (Value.int .u64 (0 : Int)), (Value.int .u64 (0 : Int)), (Value.int .u64 (0 : Int)), (Value.int .u64 (0 : Int)), (Value.int .u64 (0 : Int))], eqs := false }),
  (49, { k := .ptr, sub := (.elem 71), size := 1, bytes := 8, zero := [(Value.pointer none)], eqs := false }),
  (51, { k := .agg, sub := (.fields [(0, 30), (1, 49)]), size := 2, bytes := 16, zero := [(Value.pointer none), (Value.pointer none)], eqs := false }),
  (58, { k := .sl, sub := (.elem 68), size := 1, bytes := 24, zero := [(Value.slice none 0 0)], eqs := false }),
  (59, { k := .agg, sub := (.arr 35 36), size := 35, bytes := 280, zero := [(Value.int .u64 (0 : Int)), (Value.int .u64 (0 : Int)), (Value.int .u64 (0 : Int)), (Value.int .u64 (0 : Int)), (Value.int .u64 (0 : Int)), (Value.int .u64 (0 : Int)), (Value.int .u64 (0 : Int)), (Value.int .u64 (0 : Int)), (Value.int .u64 (0 : Int)), (Value.int .u64 (0 : Int)), (Value.int .u64 (0 : Int)), (Value.int .u64 (0 : Int)), (Value.int .u64 (0 : Int)), (Value.int .u64 (0 : Int)), (Value.int .u64 (0 : Int)), (Value.int .u64 (0 : Int)), (Value.int .u64 (0 : Int)), (Value.int .u64 (0 : Int)), (Value.int .u64 (0 : Int)), (Value.int .u64 (0 : Int)), (Value.int .u64 (0 : Int)), (Value.int .u64 (0 : Int)), (Value.int .u64 (0 : Int)), (Value.int .u64 (0 : Int)), (Value.int .u64 (0 : Int)), (Value.int .u64 (0 : Int)), (Value.int .u64 (0 : Int)), (Value.int .u64 (0 : Int)), (Value.int .u64 (0 : Int)), (Value.int .u64 (0 : Int)), (Value.int .u64 (0 : Int)), (Value.int .u64 (0 : Int)), (Value.int .u64 (0 : Int)), (Value.int .u64 (0 : Int)), (Value.int .u64 (0 : Int))], eqs := true }),
  (61, { k := .agg, sub := (.fields [(0, 58), (1, 59), (36, 3), (37, 3), (38, 3), (39, 4)]), size := 40, bytes := 336, zero := [(Value.slice none 0 0), (Value.int .u64 (0 : Int)), (Value.int .u64 (0 : Int)), (Value.int .u64 (0 : Int)), (Value.int .u64 (0 : Int)), (Value.int .u64 (0 : Int)), (Value.int .u64 (0 : Int)), (Value.int .u64 (0 : Int)), (Value.int .u64 (0 : Int)), (Value.int .u64 (0 : Int)), (Value.int .u64 (0 : Int)), (Value.int .u64 (0 : Int)), (Value.int .u64 (0 : Int)), (Value.int .u64 (0 : Int)), (Value.int .u64 (0 : Int)), (Value.int .u64 (0 : Int)), (Value.int .u64 (0 : Int)), (Value.int .u64 (0 : Int)), (Value.int .u64 (0 : Int)), (Value.int .u64 (0 : Int)), (Value.int .u64 (0 : Int)), (Value.int .u64 (0 : Int)), (Value.int .u64 (0 : Int)), (Value.int .u64 (0 : Int)), (Value.int .u64 (0 : Int)), (Value.int .u64 (0 : Int)), (Value.int .u64 (0 : Int)), (Value.int .u64 (0 : Int)), (Value.int .u64 (0 : Int)), (Value.int .u64 (0 : Int)), (Value.int .u64 (0 : Int)), (Value.int .u64 (0 : Int)), (Value.int .u64 (0 : Int)), (Value.int .u64 (0 : Int)), (Value.int .u64 (0 : Int)), (Value.int .u64 (0 : Int)), (Value.int .i64 (0 : Int)), (Value.int .i64 (0 : Int)), (Value.int .i64 (0 : Int)), (Value.bool false)], eqs := false }),
  (68, { k := .agg, sub := (.fields [(0, 38), (8, 3), (9, 3)]), size := 10, bytes := 80, zero := [(Value.int .u64 (0 : Int)), (Value.int .u64 (0 : Int)), (Value.int .u64 (0 : Int)), (Value.int .u64 (0 : Int)), (Value.int .u64 (0 : Int)), (Value.int .u64 (0 : Int)), (Value.int .u64 (0 : Int)), (Value.int .u64 (0 : Int)), (Value.int .i64 (0 : Int)), (Value.int .i64 (0 : Int))], eqs := false }),
  (69, { k := .ptr, sub := (.elem 83), size := 1, bytes := 8, zero := [(Value.pointer none)], eqs := false }),
  (71, { k := .agg, sub := (.fields [(0, 30), (1, 69), (2, 3), (3, 3), (4, 3)]), size := 5, bytes := 40, zero := [(Value.pointer none), (Value.pointer none), (Value.int .i64 (0 : Int)), (Value.int .i64 (0 : Int)), (Value.int .i64 (0 : Int))], eqs := false }),
  (79, { k := .sl, sub := (.elem 36), size := 1, bytes := 24, zero := [(Value.slice none 0 0)], eqs := false }),
  (83, { k := .agg, sub := (.fields [(0, 30), (1, 3), (2, 3)]), size := 3, bytes := 24, zero := [(Value.pointer none), (Value.int .i64 (0 : Int)), (Value.int .i64 (0 : Int))], eqs := false }),
  (0, { k := .bad, sub := .tup [], size := 0, bytes := 0, zero := [], eqs := false }),
  (27, { k := .bad, sub := .tup [3, 3, 3], size := 0, bytes := 0, zero := [], eqs := false }),
  (31, { k := .bad, sub := .tup [29, 30], size := 0, bytes := 0, zero := [], eqs := false }),
  (45, { k := .bad, sub := .tup [38, 34], size := 0, bytes := 0, zero := [], eqs := false }),
  (56, { k := .bad, sub := .tup [36, 34], size := 0, bytes := 0, zero := [], eqs := false }),
  (64, { k := .bad, sub := .tup [24, 34], size := 0, bytes := 0, zero := [], eqs := false }),
  (77, { k := .bad, sub := .tup [3, 3], size := 0, bytes := 0, zero := [], eqs := false }),
  (80, { k := .bad, sub := .tup [3, 79, 34], size := 0, bytes := 0, zero := [], eqs := false }),
  (88, { k := .bad, sub := .tup [79, 34], size := 0, bytes := 0, zero := [], eqs := false })]
def T : Nat → TyE := tyLook tyL
theorem hT : Agrees Try.prog T := agrees_of (by kernel_rfl)
theorem hm : Try.prog.follows .mixedOrders = true := by kernel_rfl
def pan (f : Nat) : Bool := ([] : List Nat).contains f

def log_May (x0 : Int) (x1 : Sl) (H : AH) (k : Bool → AH → Prop) : Prop :=
  LCalls Try.prog 16 [(Value.int .i64 x0), (Sl.val x1)] H fun e H' => in1 .bool e noPan (fun r0 => k r0 H')

def darninglaw12_heavy (x0 : Sl) (x1 : Sl) (H : AH) (k : Int → AH → Prop) : Prop :=
  LCalls Try.prog 4 [(Sl.val x0), (Sl.val x1)] H fun e H' => in1 (.int .i64) e noPan (fun r0 => k r0 H')

def nvm_New (x0 : Int) (x1 : Sl) (H : AH) (k : Option Addr → AH → Prop) : Prop :=
  LCalls Try.prog 17 [(Value.int .i64 x0), (Sl.val x1)] H fun e H' => in1 .ptr e noPan (fun r0 => k r0 H')

def nvm_Memory_Lines (x0 : Option Addr) (H : AH) (k : Int → AH → Prop) : Prop :=
  LCalls Try.prog 37 [(Value.pointer x0)] H fun e H' => in1 (.int .i64) e noPan (fun r0 => k r0 H')

def nvm_Memory_hasReg (x0 : Option Addr) (x1 : Int) (H : AH) (k : Bool → AH → Prop) : Prop :=
  LCalls Try.prog 34 [(Value.pointer x0), (Value.int .i64 x1)] H fun e H' => in1 .bool e noPan (fun r0 => k r0 H')

def nvm_Memory_Reg (x0 : Option Addr) (x1 : Int) (H : AH) (k : Int → Int → AH → Prop) : Prop :=
  LCalls Try.prog 24 [(Value.pointer x0), (Value.int .i64 x1)] H fun e H' => in2 (.int .u64) (.int .i64) e noPan (fun r0 r1 => k r0 r1 H')

def nvm_Memory_Down (x0 : Option Addr) (H : AH) (k : Bool → AH → Prop) : Prop :=
  LCalls Try.prog 19 [(Value.pointer x0)] H fun e H' => in1 .bool e noPan (fun r0 => k r0 H')

def lines_Lines_table (x0 : Option Addr) (H : AH) (k : Sl → Int → AH → Prop) : Prop :=
  LCalls Try.prog 48 [(Value.pointer x0)] H fun e H' => in2 .sl (.int .i64) e noPan (fun r0 r1 => k r0 r1 H')

def spare_Dead (x0 : Int) (H : AH) (k : Int → AH → Prop) : Prop :=
  LCalls Try.prog 44 [(Value.int .i64 x0)] H fun e H' => in1 (.int .u64) e noPan (fun r0 => k r0 H')

def spare_May (x0 : Sl) (x1 : Int) (H : AH) (k : Bool → AH → Prop) : Prop :=
  LCalls Try.prog 49 [(Sl.val x0), (Value.int .i64 x1)] H fun e H' => in1 .bool e noPan (fun r0 => k r0 H')

def lines_New (x0 : Option Addr) (x1 : Int) (x2 : Int) (H : AH) (k : Option Addr → AH → Prop) : Prop :=
  LCalls Try.prog 38 [(Value.pointer x0), (Value.int .i64 x1), (Value.int .i64 x2)] H fun e H' => in1 .ptr e noPan (fun r0 => k r0 H')

def turn_New (x0 : Option Addr) (x1 : Int) (x2 : Int) (x3 : Int) (H : AH) (k : Option Addr → AH → Prop) : Prop :=
  LCalls Try.prog 26 [(Value.pointer x0), (Value.int .i64 x1), (Value.int .i64 x2), (Value.int .i64 x3)] H fun e H' => in1 .ptr e noPan (fun r0 => k r0 H')

def turn_Turn_Lines (x0 : Option Addr) (H : AH) (k : Int → AH → Prop) : Prop :=
  LCalls Try.prog 18 [(Value.pointer x0)] H fun e H' => in1 (.int .i64) e noPan (fun r0 => k r0 H')

def log_New (x0 : Option Addr) (x1 : Option Addr) (H : AH) (k : Option Addr → AH → Prop) : Prop :=
  LCalls Try.prog 25 [(Value.pointer x0), (Value.pointer x1)] H fun e H' => in1 .ptr e noPan (fun r0 => k r0 H')

def darninglaw12_over (x0 : Option Addr) (x1 : Int) (x2 : Int) (x3 : Int) (H : AH) (k : Option Addr → AH → Prop) : Prop :=
  LCalls Try.prog 13 [(Value.pointer x0), (Value.int .i64 x1), (Value.int .i64 x2), (Value.int .i64 x3)] H fun e H' => in1 .ptr e noPan (fun r0 => k r0 H')

def darninglaw12_made (x0 : Int) (x1 : Int) (x2 : Int) (x3 : Sl) (H : AH) (k : Option Addr → Option Addr → AH → Prop) : Prop :=
  LCalls Try.prog 7 [(Value.int .i64 x0), (Value.int .i64 x1), (Value.int .i64 x2), (Sl.val x3)] H fun e H' => in2 .ptr .ptr e noPan (fun r0 r1 => k r0 r1 H')

def log_Log_Pending (x0 : Option Addr) (H : AH) (k : Bool → AH → Prop) : Prop :=
  LCalls Try.prog 10 [(Value.pointer x0)] H fun e H' => in1 .bool e noPan (fun r0 => k r0 H')

def log_index (x0 : Int) (H : AH) (k : Int → AH → Prop) : Prop :=
  LCalls Try.prog 20 [(Value.int .i64 x0)] H fun e H' => in1 (.int .i64) e noPan (fun r0 => k r0 H')

def turn_Turn_may (x0 : Option Addr) (x1 : Int) (H : AH) (k : Int → AH → Prop) : Prop :=
  LCalls Try.prog 29 [(Value.pointer x0), (Value.int .i64 x1)] H fun e H' => in1 (.int .i64) e noPan (fun r0 => k r0 H')

def turn_Turn_Moves (x0 : Option Addr) (H : AH) (k : Int → AH → Prop) : Prop :=
  LCalls Try.prog 33 [(Value.pointer x0)] H fun e H' => in1 (.int .i64) e noPan (fun r0 => k r0 H')

def gap_may (x0 : Int) (x1 : Int) (H : AH) (k : Bool → AH → Prop) : Prop :=
  LCalls Try.prog 45 [(Value.int .i64 x0), (Value.int .i64 x1)] H fun e H' => in1 .bool e noPan (fun r0 => k r0 H')

def gap_Gap (x0 : Int) (x1 : Int) (H : AH) (k : Int → AH → Prop) : Prop :=
  LCalls Try.prog 47 [(Value.int .i64 x0), (Value.int .i64 x1)] H fun e H' => in1 (.int .i64) e noPan (fun r0 => k r0 H')

def gap_Move (x0 : Int) (x1 : Int) (H : AH) (k : Int → Int → AH → Prop) : Prop :=
  LCalls Try.prog 40 [(Value.int .i64 x0), (Value.int .i64 x1)] H fun e H' => in2 (.int .i64) (.int .i64) e noPan (fun r0 r1 => k r0 r1 H')

def spare_Place (x0 : Sl) (x1 : Int) (x2 : Int) (H : AH) (k : Int → AH → Prop) : Prop :=
  LCalls Try.prog 51 [(Sl.val x0), (Value.int .i64 x1), (Value.int .i64 x2)] H fun e H' => in1 (.int .i64) e noPan (fun r0 => k r0 H')

def lines_Lines_place (x0 : Option Addr) (x1 : Int) (H : AH) (k : Int → Sl → Int → AH → Prop) : Prop :=
  LCalls Try.prog 41 [(Value.pointer x0), (Value.int .i64 x1)] H fun e H' => in3 (.int .i64) .sl (.int .i64) e noPan (fun r0 r1 r2 => k r0 r1 r2 H')

def nvm_Memory_has (x0 : Option Addr) (x1 : Int) (H : AH) (k : Bool → AH → Prop) : Prop :=
  LCalls Try.prog 52 [(Value.pointer x0), (Value.int .i64 x1)] H fun e H' => in1 .bool e noPan (fun r0 => k r0 H')

def nvm_Memory_Get (x0 : Option Addr) (x1 : Int) (H : AH) (k : List Value → Int → AH → Prop) : Prop :=
  LCalls Try.prog 50 [(Value.pointer x0), (Value.int .i64 x1)] H fun e H' => in2 .agg (.int .i64) e noPan (fun r0 r1 => k r0 r1 H')

def lines_Lines_Get (x0 : Option Addr) (x1 : Int) (H : AH) (k : List Value → Int → AH → Prop) : Prop :=
  LCalls Try.prog 39 [(Value.pointer x0), (Value.int .i64 x1)] H fun e H' => in2 .agg (.int .i64) e noPan (fun r0 r1 => k r0 r1 H')

def nvm_Memory_write (x0 : Option Addr) (H : AH) (k : Int → AH → Prop) : Prop :=
  LCalls Try.prog 35 [(Value.pointer x0)] H fun e H' => in1 (.int .i64) e noPan (fun r0 => k r0 H')

def torn_Mix (x0 : List Value) (x1 : List Value) (x2 : Int) (H : AH) (k : List Value → AH → Prop) : Prop :=
  LCalls Try.prog 53 [(Value.agg (List.toArray x0)), (Value.agg (List.toArray x1)), (Value.int .i64 x2)] H fun e H' => in1 .agg e noPan (fun r0 => k r0 H')

def nvm_Memory_told (x0 : Option Addr) (x1 : Bool) (H : AH) (k : Int → AH → Prop) : Prop :=
  LCalls Try.prog 36 [(Value.pointer x0), (Value.bool x1)] H fun e H' => in1 (.int .i64) e noPan (fun r0 => k r0 H')

def nvm_Memory_Put (x0 : Option Addr) (x1 : Int) (x2 : List Value) (H : AH) (k : Int → AH → Prop) : Prop :=
  LCalls Try.prog 42 [(Value.pointer x0), (Value.int .i64 x1), (Value.agg (List.toArray x2))] H fun e H' => in1 (.int .i64) e noPan (fun r0 => k r0 H')

def spare_Next (x0 : Sl) (H : AH) (k : Int → AH → Prop) : Prop :=
  LCalls Try.prog 43 [(Sl.val x0)] H fun e H' => in1 (.int .i64) e noPan (fun r0 => k r0 H')

def nvm_Memory_Set (x0 : Option Addr) (x1 : Int) (x2 : Int) (H : AH) (k : Int → AH → Prop) : Prop :=
  LCalls Try.prog 22 [(Value.pointer x0), (Value.int .i64 x1), (Value.int .u64 x2)] H fun e H' => in1 (.int .i64) e noPan (fun r0 => k r0 H')

def lines_Lines_Put (x0 : Option Addr) (x1 : Int) (x2 : List Value) (H : AH) (k : Int → AH → Prop) : Prop :=
  LCalls Try.prog 31 [(Value.pointer x0), (Value.int .i64 x1), (Value.agg (List.toArray x2))] H fun e H' => in1 (.int .i64) e noPan (fun r0 => k r0 H')

def turn_Turn_move (x0 : Option Addr) (H : AH) (k : Int → AH → Prop) : Prop :=
  LCalls Try.prog 30 [(Value.pointer x0)] H fun e H' => in1 (.int .i64) e noPan (fun r0 => k r0 H')

def gap_turned (x0 : Int) (x1 : Int) (H : AH) (k : Int → AH → Prop) : Prop :=
  LCalls Try.prog 46 [(Value.int .i64 x0), (Value.int .i64 x1)] H fun e H' => in1 (.int .i64) e noPan (fun r0 => k r0 H')

def gap_Slot (x0 : Int) (x1 : Int) (x2 : Int) (H : AH) (k : Int → AH → Prop) : Prop :=
  LCalls Try.prog 32 [(Value.int .i64 x0), (Value.int .i64 x1), (Value.int .i64 x2)] H fun e H' => in1 (.int .i64) e noPan (fun r0 => k r0 H')

def turn_Turn_Put (x0 : Option Addr) (x1 : Int) (x2 : List Value) (H : AH) (k : Int → AH → Prop) : Prop :=
  LCalls Try.prog 21 [(Value.pointer x0), (Value.int .i64 x1), (Value.agg (List.toArray x2))] H fun e H' => in1 (.int .i64) e noPan (fun r0 => k r0 H')

def log_Log_finish (x0 : Option Addr) (x1 : Sl) (H : AH) (k : Int → AH → Prop) : Prop :=
  LCalls Try.prog 23 [(Value.pointer x0), (Sl.val x1)] H fun e H' => in1 (.int .i64) e noPan (fun r0 => k r0 H')

def log_Log_Commit (x0 : Option Addr) (x1 : Sl) (H : AH) (k : Int → AH → Prop) : Prop :=
  LCalls Try.prog 8 [(Value.pointer x0), (Sl.val x1)] H fun e H' => in1 (.int .i64) e noPan (fun r0 => k r0 H')

def turn_Turn_Get (x0 : Option Addr) (x1 : Int) (H : AH) (k : List Value → Int → AH → Prop) : Prop :=
  LCalls Try.prog 28 [(Value.pointer x0), (Value.int .i64 x1)] H fun e H' => in2 .agg (.int .i64) e noPan (fun r0 r1 => k r0 r1 H')

def log_Log_homes (x0 : Option Addr) (H : AH) (k : Sl → Int → AH → Prop) : Prop :=
  LCalls Try.prog 27 [(Value.pointer x0)] H fun e H' => in2 .sl (.int .i64) e noPan (fun r0 r1 => k r0 r1 H')

def log_Log_Get (x0 : Option Addr) (x1 : Int) (H : AH) (k : List Value → Int → AH → Prop) : Prop :=
  LCalls Try.prog 15 [(Value.pointer x0), (Value.int .i64 x1)] H fun e H' => in2 .agg (.int .i64) e noPan (fun r0 r1 => k r0 r1 H')

def darninglaw12_awake  (H : AH) (k : Bool → AH → Prop) : Prop :=
  LCalls Try.prog 5 [] H fun e H' => in1 .bool e noPan (fun r0 => k r0 H')

def darninglaw12_sized (x0 : Int) (x1 : Int) (x2 : Int) (H : AH) (k : Int → Int → Int → AH → Prop) : Prop :=
  LCalls Try.prog 6 [(Value.int .i64 x0), (Value.int .i64 x1), (Value.int .i64 x2)] H fun e H' => in3 (.int .i64) (.int .i64) (.int .i64) e noPan (fun r0 r1 r2 => k r0 r1 r2 H')

def darningref4_MayHomes (x0 : Int) (x1 : Sl) (H : AH) (k : Bool → AH → Prop) : Prop :=
  LCalls Try.prog 9 [(Value.int .i64 x0), (Sl.val x1)] H fun e H' => in1 .bool e noPan (fun r0 => k r0 H')

def nvm_Memory_Cut (x0 : Option Addr) (x1 : Int) (x2 : Int) (H : AH) (k : AH → Prop) : Prop :=
  LCalls Try.prog 11 [(Value.pointer x0), (Value.int .i64 x1), (Value.int .i64 x2)] H fun e H' => in0  e noPan (k H')

def nvm_Memory_Power (x0 : Option Addr) (H : AH) (k : AH → Prop) : Prop :=
  LCalls Try.prog 12 [(Value.pointer x0)] H fun e H' => in0  e noPan (k H')

def log_Log_Recover (x0 : Option Addr) (H : AH) (k : Int → AH → Prop) : Prop :=
  LCalls Try.prog 14 [(Value.pointer x0)] H fun e H' => in1 (.int .i64) e noPan (fun r0 => k r0 H')

def darninglaw12_LogWhole (x0 : Int) (x1 : Int) (x2 : Int) (x3 : Sl) (x4 : Sl) (x5 : Sl) (x6 : Int) (x7 : Int) (x8 : Sl) (H : AH) (k : Bool → AH → Prop) : Prop :=
  LCalls Try.prog 3 [(Value.int .i64 x0), (Value.int .i64 x1), (Value.int .i64 x2), (Sl.val x3), (Sl.val x4), (Sl.val x5), (Value.int .i64 x6), (Value.int .i64 x7), (Sl.val x8)] H fun e H' => in1 .bool e noPan (fun r0 => k r0 H')

def darninglaw12_heavy.l1 (x0 : Sl) (k : Int → AH → Prop) (t4 : Int × Int) (HL4 : AH) (it4 : (Int × Int) → AH → Prop) : Prop :=
  bcase (decide ((t4.2 : Int) < ((x0.n : Nat) : Int))) ((0 ≤ t4.2 ∧ t4.2 < ((x0.n : Nat) : Int)) ∧ onPtr x0.a fun a19 => elL (AH.cell? HL4 (Addr.add a19 (Int.toNat t4.2 * 1))) fun s20 => bcase (decide ((((s20.n : Nat) : Int) : Int) > (30 : Int))) (k (2 : Int) HL4) (it4 (t4.1, (IntKind.wrap .i64 (t4.2 + (1 : Int)))) HL4)) (k (0 : Int) HL4)
def darninglaw12_heavy.j2 (x0 : Sl) (H : AH) (k : Int → AH → Prop) (x14 : Bool) : Prop :=
  bcase x14 (k (1 : Int) H) (loopT (darninglaw12_heavy.l1 x0 k) (((0 : Int), (0 : Int)) : Int × Int) H)
def darninglaw12_heavy.b (x0 : Sl) (x1 : Sl) (H : AH) (k : Int → AH → Prop) : Prop :=
  bcase (decide ((((x0.n : Nat) : Int) : Int) > (30 : Int))) (darninglaw12_heavy.j2 x0 H k true) (darninglaw12_heavy.j2 x0 H k (decide ((((x1.n : Nat) : Int) : Int) > (200 : Int))))
def darninglaw12_heavy.ann : Ann := { keep := fun r => match r with | 4 => [(4, .int .i64), (17, .int .i64)] | _ => [], ord := fun r => match r with  | _ => [] }
theorem darninglaw12_heavy.link {x0 : Sl} {x1 : Sl} {H : AH} {k : Int → AH → Prop} (h : darninglaw12_heavy.b x0 x1 H k) : darninglaw12_heavy x0 x1 H k := by
  have e : wpC Try.prog T pan Try.f4.ntmps darninglaw12_heavy.ann (Try.f4.body.getD .skip) (argFr [(Sl.val x0), (Sl.val x1)]) H (bodyK T Try.f4.results.toList fun e H' => out1 (.int .i64) e noPan (fun r0 => k r0 H')) = darninglaw12_heavy.b x0 x1 H k := by kernel_rfl
  have h1 : LCalls Try.prog 4 [(Sl.val x0), (Sl.val x1)] H (fun e H' => out1 (.int .i64) e noPan (fun r0 => k r0 H')) := lcalls_of hT hm Try.func4 (by kernel_rfl) darninglaw12_heavy.ann (Nat.le_of_ble_eq_true (by kernel_rfl)) (e.mpr h)
  exact h1.mono fun _ _ hq => out1_in (fun h => by cases h) hq

def nvm_New.l1 (x1 : Sl) (k : Option Addr → AH → Prop) (o16 : Nat) (s20 : Sl) (t5 : Int) (HL5 : AH) (it5 : (Int) → AH → Prop) : Prop :=
  bcase (decide ((t5 : Int) < ((s20.n : Nat) : Int))) (elL (AH.cell? HL5 (Addr.add ⟨o16, 0, none⟩ 0)) fun s28 => (0 ≤ t5 ∧ t5 < ((s28.n : Nat) : Int)) ∧ onPtr s28.a fun a30 => stC HL5 (Addr.add (Addr.add a30 (Int.toNat t5 * 10)) 9) [(Value.int .i64 (-1 : Int))] fun Hs2 => bcase (decide ((t5 : Int) < ((x1.n : Nat) : Int))) (elL (AH.cell? Hs2 (Addr.add ⟨o16, 0, none⟩ 0)) fun s39 => (0 ≤ t5 ∧ t5 < ((x1.n : Nat) : Int)) ∧ onPtr x1.a fun a43 => elI .i64 (AH.cell? Hs2 (Addr.add a43 (Int.toNat t5 * 1))) fun n44 => (0 ≤ t5 ∧ t5 < ((s39.n : Nat) : Int)) ∧ onPtr s39.a fun a45 => stC Hs2 (Addr.add (Addr.add a45 (Int.toNat t5 * 10)) 9) [(Value.int .i64 n44)] fun Hs4 => it5 (IntKind.wrap .i64 (t5 + (1 : Int))) Hs4) (it5 (IntKind.wrap .i64 (t5 + (1 : Int))) Hs2)) (k (some ⟨o16, 0, none⟩) HL5)
def nvm_New.j2 (x0 : Int) (x1 : Sl) (H : AH) (k : Option Addr → AH → Prop) (x12 : Bool) : Prop :=
  bcase x12 (k none H) ((0 ≤ x0 ∧ x0 ≤ x0 ∧ x0 ≤ (lim : Int)) ∧ newC H ⟨zerosOf (Int.toNat x0) [(Value.int .u64 (0 : Int)), (Value.int .u64 (0 : Int)), (Value.int .u64 (0 : Int)), (Value.int .u64 (0 : Int)), (Value.int .u64 (0 : Int)), (Value.int .u64 (0 : Int)), (Value.int .u64 (0 : Int)), (Value.int .u64 (0 : Int)), (Value.int .i64 (0 : Int)), (Value.int .i64 (0 : Int))], .rw, 10⟩ fun o14 H14 => newC H14 ⟨[(Value.slice (some ⟨o14, 0, none⟩) (Int.toNat x0) 1), (Value.int .u64 (0 : Int)), (Value.int .u64 (0 : Int)), (Value.int .u64 (0 : Int)), (Value.int .u64 (0 : Int)), (Value.int .u64 (0 : Int)), (Value.int .u64 (0 : Int)), (Value.int .u64 (0 : Int)), (Value.int .u64 (0 : Int)), (Value.int .u64 (0 : Int)), (Value.int .u64 (0 : Int)), (Value.int .u64 (0 : Int)), (Value.int .u64 (0 : Int)), (Value.int .u64 (0 : Int)), (Value.int .u64 (0 : Int)), (Value.int .u64 (0 : Int)), (Value.int .u64 (0 : Int)), (Value.int .u64 (0 : Int)), (Value.int .u64 (0 : Int)), (Value.int .u64 (0 : Int)), (Value.int .u64 (0 : Int)), (Value.int .u64 (0 : Int)), (Value.int .u64 (0 : Int)), (Value.int .u64 (0 : Int)), (Value.int .u64 (0 : Int)), (Value.int .u64 (0 : Int)), (Value.int .u64 (0 : Int)), (Value.int .u64 (0 : Int)), (Value.int .u64 (0 : Int)), (Value.int .u64 (0 : Int)), (Value.int .u64 (0 : Int)), (Value.int .u64 (0 : Int)), (Value.int .u64 (0 : Int)), (Value.int .u64 (0 : Int)), (Value.int .u64 (0 : Int)), (Value.int .u64 (0 : Int)), (Value.int .i64 (0 : Int)), (Value.int .i64 (-1 : Int)), (Value.int .i64 (0 : Int)), (Value.bool false)], .rw, 0⟩ fun o16 H16 => elL (AH.cell? H16 (Addr.add ⟨o16, 0, none⟩ 0)) fun s20 => loopT (nvm_New.l1 x1 k o16 s20) (((0 : Int)) : Int) H16)
def nvm_New.b (x0 : Int) (x1 : Sl) (H : AH) (k : Option Addr → AH → Prop) : Prop :=
  bcase (decide ((x0 : Int) < (1 : Int))) (nvm_New.j2 x0 x1 H k true) (nvm_New.j2 x0 x1 H k (decide ((x0 : Int) > (200 : Int))))
def nvm_New.ann : Ann := { keep := fun r => match r with | 5 => [(22, .int .i64)] | _ => [], ord := fun r => match r with | 9 => [0, 1, 2, 3, 4, 5, 6, 7, 8, 9, 10, 11] | _ => [] }
theorem nvm_New.link {x0 : Int} {x1 : Sl} {H : AH} {k : Option Addr → AH → Prop} (h : nvm_New.b x0 x1 H k) : nvm_New x0 x1 H k := by
  have e : wpC Try.prog T pan Try.f17.ntmps nvm_New.ann (Try.f17.body.getD .skip) (argFr [(Value.int .i64 x0), (Sl.val x1)]) H (bodyK T Try.f17.results.toList fun e H' => out1 .ptr e noPan (fun r0 => k r0 H')) = nvm_New.b x0 x1 H k := by kernel_rfl
  have h1 : LCalls Try.prog 17 [(Value.int .i64 x0), (Sl.val x1)] H (fun e H' => out1 .ptr e noPan (fun r0 => k r0 H')) := lcalls_of hT hm Try.func17 (by kernel_rfl) nvm_New.ann (Nat.le_of_ble_eq_true (by kernel_rfl)) (e.mpr h)
  exact h1.mono fun _ _ hq => out1_in (fun h => by cases h) hq

def nvm_Memory_Lines.b (x0 : Option Addr) (H : AH) (k : Int → AH → Prop) : Prop :=
  bcase (Option.isNone x0) (k (0 : Int) H) (onPtr x0 fun a6 => elL (AH.cell? H (Addr.add a6 0)) fun s8 => k ((s8.n : Nat) : Int) H)
def nvm_Memory_Lines.ann : Ann := { keep := fun r => match r with  | _ => [], ord := fun r => match r with  | _ => [] }
theorem nvm_Memory_Lines.link {x0 : Option Addr} {H : AH} {k : Int → AH → Prop} (h : nvm_Memory_Lines.b x0 H k) : nvm_Memory_Lines x0 H k := by
  have e : wpC Try.prog T pan Try.f37.ntmps nvm_Memory_Lines.ann (Try.f37.body.getD .skip) (argFr [(Value.pointer x0)]) H (bodyK T Try.f37.results.toList fun e H' => out1 (.int .i64) e noPan (fun r0 => k r0 H')) = nvm_Memory_Lines.b x0 H k := by kernel_rfl
  have h1 : LCalls Try.prog 37 [(Value.pointer x0)] H (fun e H' => out1 (.int .i64) e noPan (fun r0 => k r0 H')) := lcalls_of hT hm Try.func37 (by kernel_rfl) nvm_Memory_Lines.ann (Nat.le_of_ble_eq_true (by kernel_rfl)) (e.mpr h)
  exact h1.mono fun _ _ hq => out1_in (fun h => by cases h) hq

def nvm_Memory_hasReg.b (x0 : Option Addr) (x1 : Int) (H : AH) (k : Bool → AH → Prop) : Prop :=
  bcase (!(Option.isNone x0)) (bcase (decide ((x1 : Int) ≥ (0 : Int))) (k (decide ((x1 : Int) < (35 : Int))) H) (k false H)) (k false H)
def nvm_Memory_hasReg.ann : Ann := { keep := fun r => match r with  | _ => [], ord := fun r => match r with  | _ => [] }
theorem nvm_Memory_hasReg.link {x0 : Option Addr} {x1 : Int} {H : AH} {k : Bool → AH → Prop} (h : nvm_Memory_hasReg.b x0 x1 H k) : nvm_Memory_hasReg x0 x1 H k := by
  have e : wpC Try.prog T pan Try.f34.ntmps nvm_Memory_hasReg.ann (Try.f34.body.getD .skip) (argFr [(Value.pointer x0), (Value.int .i64 x1)]) H (bodyK T Try.f34.results.toList fun e H' => out1 .bool e noPan (fun r0 => k r0 H')) = nvm_Memory_hasReg.b x0 x1 H k := by kernel_rfl
  have h1 : LCalls Try.prog 34 [(Value.pointer x0), (Value.int .i64 x1)] H (fun e H' => out1 .bool e noPan (fun r0 => k r0 H')) := lcalls_of hT hm Try.func34 (by kernel_rfl) nvm_Memory_hasReg.ann (Nat.le_of_ble_eq_true (by kernel_rfl)) (e.mpr h)
  exact h1.mono fun _ _ hq => out1_in (fun h => by cases h) hq

def nvm_Memory_Reg.b (x0 : Option Addr) (x1 : Int) (H : AH) (k : Int → Int → AH → Prop) : Prop :=
  nvm_Memory_hasReg x0 x1 H fun b9 H9 => bcase (!b9) (k (0 : Int) (1 : Int) H9) (onPtr x0 fun a13 => elB (AH.cell? H9 (Addr.add a13 39)) fun b15 => bcase b15 (k (0 : Int) (2 : Int) H9) (onPtr x0 fun a18 => (0 ≤ x1 ∧ x1 < ((35 : Nat) : Int)) ∧ elI .u64 (AH.cell? H9 (Addr.add (Addr.add a18 1) (Int.toNat x1 * 1))) fun n21 => k n21 (0 : Int) H9))
def nvm_Memory_Reg.ann : Ann := { keep := fun r => match r with  | _ => [], ord := fun r => match r with  | _ => [] }
theorem nvm_Memory_Reg.link {x0 : Option Addr} {x1 : Int} {H : AH} {k : Int → Int → AH → Prop} (h : nvm_Memory_Reg.b x0 x1 H k) : nvm_Memory_Reg x0 x1 H k := by
  have e : wpC Try.prog T pan Try.f24.ntmps nvm_Memory_Reg.ann (Try.f24.body.getD .skip) (argFr [(Value.pointer x0), (Value.int .i64 x1)]) H (bodyK T Try.f24.results.toList fun e H' => out2 (.int .u64) (.int .i64) e noPan (fun r0 r1 => k r0 r1 H')) = nvm_Memory_Reg.b x0 x1 H k := by kernel_rfl
  have h1 : LCalls Try.prog 24 [(Value.pointer x0), (Value.int .i64 x1)] H (fun e H' => out2 (.int .u64) (.int .i64) e noPan (fun r0 r1 => k r0 r1 H')) := lcalls_of hT hm Try.func24 (by kernel_rfl) nvm_Memory_Reg.ann (Nat.le_of_ble_eq_true (by kernel_rfl)) (e.mpr h)
  exact h1.mono fun _ _ hq => out2_in (fun h => by cases h) (fun h => by cases h) hq

def nvm_Memory_Down.b (x0 : Option Addr) (H : AH) (k : Bool → AH → Prop) : Prop :=
  bcase (!(Option.isNone x0)) (onPtr x0 fun a7 => elB (AH.cell? H (Addr.add a7 39)) fun b9 => k b9 H) (k false H)
def nvm_Memory_Down.ann : Ann := { keep := fun r => match r with  | _ => [], ord := fun r => match r with  | _ => [] }
theorem nvm_Memory_Down.link {x0 : Option Addr} {H : AH} {k : Bool → AH → Prop} (h : nvm_Memory_Down.b x0 H k) : nvm_Memory_Down x0 H k := by
  have e : wpC Try.prog T pan Try.f19.ntmps nvm_Memory_Down.ann (Try.f19.body.getD .skip) (argFr [(Value.pointer x0)]) H (bodyK T Try.f19.results.toList fun e H' => out1 .bool e noPan (fun r0 => k r0 H')) = nvm_Memory_Down.b x0 H k := by kernel_rfl
  have h1 : LCalls Try.prog 19 [(Value.pointer x0)] H (fun e H' => out1 .bool e noPan (fun r0 => k r0 H')) := lcalls_of hT hm Try.func19 (by kernel_rfl) nvm_Memory_Down.ann (Nat.le_of_ble_eq_true (by kernel_rfl)) (e.mpr h)
  exact h1.mono fun _ _ hq => out1_in (fun h => by cases h) hq

def lines_Lines_table.j1 (x0 : Option Addr) (k : Sl → Int → AH → Prop) (t3 : Sl × Int × Sl × Int) (HL3 : AH) : Prop :=
  onPtr x0 fun a34 => elP (AH.cell? HL3 (Addr.add a34 0)) fun p36 => nvm_Memory_Down p36 HL3 fun b37 H37 => bcase b37 (k ⟨none, 0, 0⟩ (2 : Int) H37) (k t3.2.2.1 (0 : Int) H37)
def lines_Lines_table.l2 (x0 : Option Addr) (k : Sl → Int → AH → Prop) (n11 : Int) (t3 : Sl × Int × Sl × Int) (HL3 : AH) (it3 : (Sl × Int × Sl × Int) → AH → Prop) : Prop :=
  bcase (decide ((t3.2.2.2 : Int) < n11)) (onPtr x0 fun a17 => elP (AH.cell? HL3 (Addr.add a17 0)) fun p19 => nvm_Memory_Reg p19 (IntKind.wrap .i64 ((3 : Int) + t3.2.2.2)) HL3 fun n22a n22b H22 => bcase ((n22b : Int) != (0 : Int)) (k ⟨none, 0, 0⟩ n22b H22) (newC H22 ⟨[(Value.int .u64 n22a)], .rw, 1⟩ fun o30 H30 => appendC 1 H30 t3.2.2.1 ⟨(some ⟨o30, 0, none⟩), 1, 1⟩ fun s31 H31 => it3 (t3.1, t3.2.1, s31, (IntKind.wrap .i64 (t3.2.2.2 + (1 : Int)))) H31)) (lines_Lines_table.j1 x0 k t3 HL3)
def lines_Lines_table.b (x0 : Option Addr) (H : AH) (k : Sl → Int → AH → Prop) : Prop :=
  onPtr x0 fun a9 => elI .i64 (AH.cell? H (Addr.add a9 2)) fun n11 => loopT (lines_Lines_table.l2 x0 k n11) ((⟨none, 0, 0⟩, (0 : Int), ⟨none, 0, 0⟩, (0 : Int)) : Sl × Int × Sl × Int) H
def lines_Lines_table.ann : Ann := { keep := fun r => match r with | 3 => [(2, .sl), (3, .int .i64), (4, .sl), (12, .int .i64)] | _ => [], ord := fun r => match r with  | _ => [] }
theorem lines_Lines_table.link {x0 : Option Addr} {H : AH} {k : Sl → Int → AH → Prop} (h : lines_Lines_table.b x0 H k) : lines_Lines_table x0 H k := by
  have e : wpC Try.prog T pan Try.f48.ntmps lines_Lines_table.ann (Try.f48.body.getD .skip) (argFr [(Value.pointer x0)]) H (bodyK T Try.f48.results.toList fun e H' => out2 .sl (.int .i64) e noPan (fun r0 r1 => k r0 r1 H')) = lines_Lines_table.b x0 H k := by kernel_rfl
  have h1 : LCalls Try.prog 48 [(Value.pointer x0)] H (fun e H' => out2 .sl (.int .i64) e noPan (fun r0 r1 => k r0 r1 H')) := lcalls_of hT hm Try.func48 (by kernel_rfl) lines_Lines_table.ann (Nat.le_of_ble_eq_true (by kernel_rfl)) (e.mpr h)
  exact h1.mono fun _ _ hq => out2_in (fun h => by cases h) (fun h => by cases h) hq

def spare_Dead.b (x0 : Int) (H : AH) (k : Int → AH → Prop) : Prop :=
  bcase (decide ((x0 : Int) < (1 : Int))) (k (0 : Int) H) (k (IntKind.wrap .u64 ((IntKind.wrap .u64 x0) + (1 : Int))) H)
def spare_Dead.ann : Ann := { keep := fun r => match r with  | _ => [], ord := fun r => match r with  | _ => [] }
theorem spare_Dead.link {x0 : Int} {H : AH} {k : Int → AH → Prop} (h : spare_Dead.b x0 H k) : spare_Dead x0 H k := by
  have e : wpC Try.prog T pan Try.f44.ntmps spare_Dead.ann (Try.f44.body.getD .skip) (argFr [(Value.int .i64 x0)]) H (bodyK T Try.f44.results.toList fun e H' => out1 (.int .u64) e noPan (fun r0 => k r0 H')) = spare_Dead.b x0 H k := by kernel_rfl
  have h1 : LCalls Try.prog 44 [(Value.int .i64 x0)] H (fun e H' => out1 (.int .u64) e noPan (fun r0 => k r0 H')) := lcalls_of hT hm Try.func44 (by kernel_rfl) spare_Dead.ann (Nat.le_of_ble_eq_true (by kernel_rfl)) (e.mpr h)
  exact h1.mono fun _ _ hq => out1_in (fun h => by cases h) hq

def spare_May.j1 (k : Bool → AH → Prop) (t2 : Bool × Int) (it2 : (Bool × Int) → AH → Prop) (H16 : AH) (x33 : Bool) : Prop :=
  bcase x33 (k false H16) (it2 (t2.1, (IntKind.wrap .i64 (t2.2 + (1 : Int)))) H16)
def spare_May.l2 (x0 : Sl) (x1 : Int) (k : Bool → AH → Prop) (t2 : Bool × Int) (HL2 : AH) (it2 : (Bool × Int) → AH → Prop) : Prop :=
  bcase (decide ((t2.2 : Int) < ((x0.n : Nat) : Int))) ((0 ≤ t2.2 ∧ t2.2 < ((x0.n : Nat) : Int)) ∧ onPtr x0.a fun a12 => elI .u64 (AH.cell? HL2 (Addr.add a12 (Int.toNat t2.2 * 1))) fun n13 => spare_Dead x1 HL2 fun n16 H16 => bcase (decide ((n13 : Int) > n16)) (spare_May.j1 k t2 it2 H16 true) (bcase (decide ((t2.2 : Int) > (0 : Int))) (bcase ((n13 : Int) != (0 : Int)) ((0 ≤ (IntKind.wrap .i64 (t2.2 - (1 : Int))) ∧ (IntKind.wrap .i64 (t2.2 - (1 : Int))) < ((x0.n : Nat) : Int)) ∧ onPtr x0.a fun a29 => elI .u64 (AH.cell? H16 (Addr.add a29 (Int.toNat (IntKind.wrap .i64 (t2.2 - (1 : Int))) * 1))) fun n30 => spare_May.j1 k t2 it2 H16 ((n30 : Int) == (0 : Int))) (spare_May.j1 k t2 it2 H16 false)) (spare_May.j1 k t2 it2 H16 false))) (k (decide ((x1 : Int) ≥ (1 : Int))) HL2)
def spare_May.b (x0 : Sl) (x1 : Int) (H : AH) (k : Bool → AH → Prop) : Prop :=
  loopT (spare_May.l2 x0 x1 k) ((false, (0 : Int)) : Bool × Int) H
def spare_May.ann : Ann := { keep := fun r => match r with | 2 => [(4, .bool), (9, .int .i64)] | _ => [], ord := fun r => match r with  | _ => [] }
theorem spare_May.link {x0 : Sl} {x1 : Int} {H : AH} {k : Bool → AH → Prop} (h : spare_May.b x0 x1 H k) : spare_May x0 x1 H k := by
  have e : wpC Try.prog T pan Try.f49.ntmps spare_May.ann (Try.f49.body.getD .skip) (argFr [(Sl.val x0), (Value.int .i64 x1)]) H (bodyK T Try.f49.results.toList fun e H' => out1 .bool e noPan (fun r0 => k r0 H')) = spare_May.b x0 x1 H k := by kernel_rfl
  have h1 : LCalls Try.prog 49 [(Sl.val x0), (Value.int .i64 x1)] H (fun e H' => out1 .bool e noPan (fun r0 => k r0 H')) := lcalls_of hT hm Try.func49 (by kernel_rfl) spare_May.ann (Nat.le_of_ble_eq_true (by kernel_rfl)) (e.mpr h)
  exact h1.mono fun _ _ hq => out1_in (fun h => by cases h) hq

def lines_New.j1 (x0 : Option Addr) (x1 : Int) (x2 : Int) (k : Option Addr → AH → Prop) (x31 : Bool) (Hj : AH) : Prop :=
  bcase x31 (k none Hj) (newC Hj ⟨[(Value.pointer x0), (Value.int .i64 x1), (Value.int .i64 x2)], .rw, 0⟩ fun o36 H36 => lines_Lines_table (some ⟨o36, 0, none⟩) H36 fun s39a n39b H39 => bcase ((n39b : Int) != (0 : Int)) (k none H39) (spare_May s39a x1 H39 fun b47 H47 => bcase (!b47) (k none H47) (k (some ⟨o36, 0, none⟩) H47)))
def lines_New.b (x0 : Option Addr) (x1 : Int) (x2 : Int) (H : AH) (k : Option Addr → AH → Prop) : Prop :=
  bcase (Option.isNone x0) (lines_New.j1 x0 x1 x2 k true H) (bcase (decide ((x1 : Int) < (1 : Int))) (lines_New.j1 x0 x1 x2 k true H) (bcase (decide ((x2 : Int) < (0 : Int))) (lines_New.j1 x0 x1 x2 k true H) (bcase (decide ((x2 : Int) > (16 : Int))) (lines_New.j1 x0 x1 x2 k true H) (nvm_Memory_Lines x0 H fun n26 H26 => lines_New.j1 x0 x1 x2 k (((IntKind.wrap .i64 (n26 - x2)) : Int) != x1) H26))))
def lines_New.ann : Ann := { keep := fun r => match r with  | _ => [], ord := fun r => match r with  | _ => [] }
theorem lines_New.link {x0 : Option Addr} {x1 : Int} {x2 : Int} {H : AH} {k : Option Addr → AH → Prop} (h : lines_New.b x0 x1 x2 H k) : lines_New x0 x1 x2 H k := by
  have e : wpC Try.prog T pan Try.f38.ntmps lines_New.ann (Try.f38.body.getD .skip) (argFr [(Value.pointer x0), (Value.int .i64 x1), (Value.int .i64 x2)]) H (bodyK T Try.f38.results.toList fun e H' => out1 .ptr e noPan (fun r0 => k r0 H')) = lines_New.b x0 x1 x2 H k := by kernel_rfl
  have h1 : LCalls Try.prog 38 [(Value.pointer x0), (Value.int .i64 x1), (Value.int .i64 x2)] H (fun e H' => out1 .ptr e noPan (fun r0 => k r0 H')) := lcalls_of hT hm Try.func38 (by kernel_rfl) lines_New.ann (Nat.le_of_ble_eq_true (by kernel_rfl)) (e.mpr h)
  exact h1.mono fun _ _ hq => out1_in (fun h => by cases h) hq

def turn_New.j1 (x0 : Option Addr) (x1 : Int) (x3 : Int) (k : Option Addr → AH → Prop) (p32 : Option Addr) (H37 : AH) (x45 : Bool) : Prop :=
  bcase x45 (k none H37) (newC H37 ⟨[(Value.pointer x0), (Value.pointer p32), (Value.int .i64 x1), (Value.int .i64 x3), (Value.int .i64 (0 : Int))], .rw, 0⟩ fun o51 H51 => k (some ⟨o51, 0, none⟩) H51)
def turn_New.j2 (x0 : Option Addr) (x1 : Int) (x2 : Int) (x3 : Int) (k : Option Addr → AH → Prop) (x27 : Bool) (Hj : AH) : Prop :=
  bcase x27 (k none Hj) (lines_New x0 (IntKind.wrap .i64 (x1 + (1 : Int))) x2 Hj fun p32 H32 => bcase (Option.isNone p32) (k none H32) (nvm_Memory_Reg x0 (0 : Int) H32 fun n37a n37b H37 => bcase ((n37b : Int) != (0 : Int)) (turn_New.j1 x0 x1 x3 k p32 H37 true) (turn_New.j1 x0 x1 x3 k p32 H37 (decide ((n37a : Int) > (1099511627776 : Int))))))
def turn_New.b (x0 : Option Addr) (x1 : Int) (x2 : Int) (x3 : Int) (H : AH) (k : Option Addr → AH → Prop) : Prop :=
  bcase (decide ((x1 : Int) < (1 : Int))) (turn_New.j2 x0 x1 x2 x3 k true H) (nvm_Memory_Lines x0 H fun n17 H17 => bcase (decide ((x1 : Int) > n17)) (turn_New.j2 x0 x1 x2 x3 k true H17) (bcase (decide ((x3 : Int) < (1 : Int))) (turn_New.j2 x0 x1 x2 x3 k true H17) (turn_New.j2 x0 x1 x2 x3 k (decide ((x3 : Int) > (1000 : Int))) H17)))
def turn_New.ann : Ann := { keep := fun r => match r with  | _ => [], ord := fun r => match r with  | _ => [] }
theorem turn_New.link {x0 : Option Addr} {x1 : Int} {x2 : Int} {x3 : Int} {H : AH} {k : Option Addr → AH → Prop} (h : turn_New.b x0 x1 x2 x3 H k) : turn_New x0 x1 x2 x3 H k := by
  have e : wpC Try.prog T pan Try.f26.ntmps turn_New.ann (Try.f26.body.getD .skip) (argFr [(Value.pointer x0), (Value.int .i64 x1), (Value.int .i64 x2), (Value.int .i64 x3)]) H (bodyK T Try.f26.results.toList fun e H' => out1 .ptr e noPan (fun r0 => k r0 H')) = turn_New.b x0 x1 x2 x3 H k := by kernel_rfl
  have h1 : LCalls Try.prog 26 [(Value.pointer x0), (Value.int .i64 x1), (Value.int .i64 x2), (Value.int .i64 x3)] H (fun e H' => out1 .ptr e noPan (fun r0 => k r0 H')) := lcalls_of hT hm Try.func26 (by kernel_rfl) turn_New.ann (Nat.le_of_ble_eq_true (by kernel_rfl)) (e.mpr h)
  exact h1.mono fun _ _ hq => out1_in (fun h => by cases h) hq

def turn_Turn_Lines.b (x0 : Option Addr) (H : AH) (k : Int → AH → Prop) : Prop :=
  bcase (Option.isNone x0) (k (0 : Int) H) (onPtr x0 fun a6 => elI .i64 (AH.cell? H (Addr.add a6 2)) fun n8 => k n8 H)
def turn_Turn_Lines.ann : Ann := { keep := fun r => match r with  | _ => [], ord := fun r => match r with  | _ => [] }
theorem turn_Turn_Lines.link {x0 : Option Addr} {H : AH} {k : Int → AH → Prop} (h : turn_Turn_Lines.b x0 H k) : turn_Turn_Lines x0 H k := by
  have e : wpC Try.prog T pan Try.f18.ntmps turn_Turn_Lines.ann (Try.f18.body.getD .skip) (argFr [(Value.pointer x0)]) H (bodyK T Try.f18.results.toList fun e H' => out1 (.int .i64) e noPan (fun r0 => k r0 H')) = turn_Turn_Lines.b x0 H k := by kernel_rfl
  have h1 : LCalls Try.prog 18 [(Value.pointer x0)] H (fun e H' => out1 (.int .i64) e noPan (fun r0 => k r0 H')) := lcalls_of hT hm Try.func18 (by kernel_rfl) turn_Turn_Lines.ann (Nat.le_of_ble_eq_true (by kernel_rfl)) (e.mpr h)
  exact h1.mono fun _ _ hq => out1_in (fun h => by cases h) hq

def log_New.j1 (x0 : Option Addr) (x1 : Option Addr) (k : Option Addr → AH → Prop) (x15 : Bool) (Hj : AH) : Prop :=
  bcase x15 (k none Hj) (newC Hj ⟨[(Value.pointer x0), (Value.pointer x1)], .rw, 0⟩ fun o19 H19 => k (some ⟨o19, 0, none⟩) H19)
def log_New.b (x0 : Option Addr) (x1 : Option Addr) (H : AH) (k : Option Addr → AH → Prop) : Prop :=
  bcase (Option.isNone x0) (log_New.j1 x0 x1 k true H) (bcase (Option.isNone x1) (log_New.j1 x0 x1 k true H) (turn_Turn_Lines x1 H fun n13 H13 => log_New.j1 x0 x1 k (decide ((n13 : Int) ≤ (16 : Int))) H13))
def log_New.ann : Ann := { keep := fun r => match r with  | _ => [], ord := fun r => match r with  | _ => [] }
theorem log_New.link {x0 : Option Addr} {x1 : Option Addr} {H : AH} {k : Option Addr → AH → Prop} (h : log_New.b x0 x1 H k) : log_New x0 x1 H k := by
  have e : wpC Try.prog T pan Try.f25.ntmps log_New.ann (Try.f25.body.getD .skip) (argFr [(Value.pointer x0), (Value.pointer x1)]) H (bodyK T Try.f25.results.toList fun e H' => out1 .ptr e noPan (fun r0 => k r0 H')) = log_New.b x0 x1 H k := by kernel_rfl
  have h1 : LCalls Try.prog 25 [(Value.pointer x0), (Value.pointer x1)] H (fun e H' => out1 .ptr e noPan (fun r0 => k r0 H')) := lcalls_of hT hm Try.func25 (by kernel_rfl) log_New.ann (Nat.le_of_ble_eq_true (by kernel_rfl)) (e.mpr h)
  exact h1.mono fun _ _ hq => out1_in (fun h => by cases h) hq

def darninglaw12_over.b (x0 : Option Addr) (x1 : Int) (x2 : Int) (x3 : Int) (H : AH) (k : Option Addr → AH → Prop) : Prop :=
  turn_New x0 (IntKind.wrap .i64 ((16 : Int) + x1)) x2 x3 H fun p15 H15 => log_New x0 p15 H15 fun p16 H16 => k p16 H16
def darninglaw12_over.ann : Ann := { keep := fun r => match r with  | _ => [], ord := fun r => match r with  | _ => [] }
theorem darninglaw12_over.link {x0 : Option Addr} {x1 : Int} {x2 : Int} {x3 : Int} {H : AH} {k : Option Addr → AH → Prop} (h : darninglaw12_over.b x0 x1 x2 x3 H k) : darninglaw12_over x0 x1 x2 x3 H k := by
  have e : wpC Try.prog T pan Try.f13.ntmps darninglaw12_over.ann (Try.f13.body.getD .skip) (argFr [(Value.pointer x0), (Value.int .i64 x1), (Value.int .i64 x2), (Value.int .i64 x3)]) H (bodyK T Try.f13.results.toList fun e H' => out1 .ptr e noPan (fun r0 => k r0 H')) = darninglaw12_over.b x0 x1 x2 x3 H k := by kernel_rfl
  have h1 : LCalls Try.prog 13 [(Value.pointer x0), (Value.int .i64 x1), (Value.int .i64 x2), (Value.int .i64 x3)] H (fun e H' => out1 .ptr e noPan (fun r0 => k r0 H')) := lcalls_of hT hm Try.func13 (by kernel_rfl) darninglaw12_over.ann (Nat.le_of_ble_eq_true (by kernel_rfl)) (e.mpr h)
  exact h1.mono fun _ _ hq => out1_in (fun h => by cases h) hq

def darninglaw12_made.b (x0 : Int) (x1 : Int) (x2 : Int) (x3 : Sl) (H : AH) (k : Option Addr → Option Addr → AH → Prop) : Prop :=
  nvm_New (IntKind.wrap .i64 ((IntKind.wrap .i64 ((IntKind.wrap .i64 ((16 : Int) + x0)) + (1 : Int))) + x1)) x3 H fun p17 H17 => darninglaw12_over p17 x0 x1 x2 H17 fun p22 H22 => k p22 p17 H22
def darninglaw12_made.ann : Ann := { keep := fun r => match r with  | _ => [], ord := fun r => match r with  | _ => [] }
theorem darninglaw12_made.link {x0 : Int} {x1 : Int} {x2 : Int} {x3 : Sl} {H : AH} {k : Option Addr → Option Addr → AH → Prop} (h : darninglaw12_made.b x0 x1 x2 x3 H k) : darninglaw12_made x0 x1 x2 x3 H k := by
  have e : wpC Try.prog T pan Try.f7.ntmps darninglaw12_made.ann (Try.f7.body.getD .skip) (argFr [(Value.int .i64 x0), (Value.int .i64 x1), (Value.int .i64 x2), (Sl.val x3)]) H (bodyK T Try.f7.results.toList fun e H' => out2 .ptr .ptr e noPan (fun r0 r1 => k r0 r1 H')) = darninglaw12_made.b x0 x1 x2 x3 H k := by kernel_rfl
  have h1 : LCalls Try.prog 7 [(Value.int .i64 x0), (Value.int .i64 x1), (Value.int .i64 x2), (Sl.val x3)] H (fun e H' => out2 .ptr .ptr e noPan (fun r0 r1 => k r0 r1 H')) := lcalls_of hT hm Try.func7 (by kernel_rfl) darninglaw12_made.ann (Nat.le_of_ble_eq_true (by kernel_rfl)) (e.mpr h)
  exact h1.mono fun _ _ hq => out2_in (fun h => by cases h) (fun h => by cases h) hq

def log_Log_Pending.b (x0 : Option Addr) (H : AH) (k : Bool → AH → Prop) : Prop :=
  bcase (Option.isNone x0) (k false H) (onPtr x0 fun a9 => elP (AH.cell? H (Addr.add a9 0)) fun p11 => nvm_Memory_Reg p11 (1 : Int) H fun n12a n12b H12 => k ((n12a : Int) != (0 : Int)) H12)
def log_Log_Pending.ann : Ann := { keep := fun r => match r with  | _ => [], ord := fun r => match r with  | _ => [] }
theorem log_Log_Pending.link {x0 : Option Addr} {H : AH} {k : Bool → AH → Prop} (h : log_Log_Pending.b x0 H k) : log_Log_Pending x0 H k := by
  have e : wpC Try.prog T pan Try.f10.ntmps log_Log_Pending.ann (Try.f10.body.getD .skip) (argFr [(Value.pointer x0)]) H (bodyK T Try.f10.results.toList fun e H' => out1 .bool e noPan (fun r0 => k r0 H')) = log_Log_Pending.b x0 H k := by kernel_rfl
  have h1 : LCalls Try.prog 10 [(Value.pointer x0)] H (fun e H' => out1 .bool e noPan (fun r0 => k r0 H')) := lcalls_of hT hm Try.func10 (by kernel_rfl) log_Log_Pending.ann (Nat.le_of_ble_eq_true (by kernel_rfl)) (e.mpr h)
  exact h1.mono fun _ _ hq => out1_in (fun h => by cases h) hq

def log_index.b (x0 : Int) (H : AH) (k : Int → AH → Prop) : Prop :=
  ((8 : Int) : Int) ≠ 0 ∧ k (IntKind.wrap .i64 (Int.tdiv (IntKind.wrap .i64 ((IntKind.wrap .i64 (x0 + (8 : Int))) - (1 : Int))) (8 : Int))) H
def log_index.ann : Ann := { keep := fun r => match r with  | _ => [], ord := fun r => match r with  | _ => [] }
theorem log_index.link {x0 : Int} {H : AH} {k : Int → AH → Prop} (h : log_index.b x0 H k) : log_index x0 H k := by
  have e : wpC Try.prog T pan Try.f20.ntmps log_index.ann (Try.f20.body.getD .skip) (argFr [(Value.int .i64 x0)]) H (bodyK T Try.f20.results.toList fun e H' => out1 (.int .i64) e noPan (fun r0 => k r0 H')) = log_index.b x0 H k := by kernel_rfl
  have h1 : LCalls Try.prog 20 [(Value.int .i64 x0)] H (fun e H' => out1 (.int .i64) e noPan (fun r0 => k r0 H')) := lcalls_of hT hm Try.func20 (by kernel_rfl) log_index.ann (Nat.le_of_ble_eq_true (by kernel_rfl)) (e.mpr h)
  exact h1.mono fun _ _ hq => out1_in (fun h => by cases h) hq

def turn_Turn_may.j1 (x0 : Option Addr) (H : AH) (k : Int → AH → Prop) (x5 : Bool) : Prop :=
  bcase x5 (k (1 : Int) H) (onPtr x0 fun a22 => elP (AH.cell? H (Addr.add a22 0)) fun p24 => nvm_Memory_Down p24 H fun b25 H25 => bcase b25 (k (2 : Int) H25) (k (0 : Int) H25))
def turn_Turn_may.b (x0 : Option Addr) (x1 : Int) (H : AH) (k : Int → AH → Prop) : Prop :=
  bcase (Option.isNone x0) (turn_Turn_may.j1 x0 H k true) (bcase (decide ((x1 : Int) < (0 : Int))) (turn_Turn_may.j1 x0 H k true) (onPtr x0 fun a15 => elI .i64 (AH.cell? H (Addr.add a15 2)) fun n17 => turn_Turn_may.j1 x0 H k (decide ((x1 : Int) ≥ n17))))
def turn_Turn_may.ann : Ann := { keep := fun r => match r with  | _ => [], ord := fun r => match r with  | _ => [] }
theorem turn_Turn_may.link {x0 : Option Addr} {x1 : Int} {H : AH} {k : Int → AH → Prop} (h : turn_Turn_may.b x0 x1 H k) : turn_Turn_may x0 x1 H k := by
  have e : wpC Try.prog T pan Try.f29.ntmps turn_Turn_may.ann (Try.f29.body.getD .skip) (argFr [(Value.pointer x0), (Value.int .i64 x1)]) H (bodyK T Try.f29.results.toList fun e H' => out1 (.int .i64) e noPan (fun r0 => k r0 H')) = turn_Turn_may.b x0 x1 H k := by kernel_rfl
  have h1 : LCalls Try.prog 29 [(Value.pointer x0), (Value.int .i64 x1)] H (fun e H' => out1 (.int .i64) e noPan (fun r0 => k r0 H')) := lcalls_of hT hm Try.func29 (by kernel_rfl) turn_Turn_may.ann (Nat.le_of_ble_eq_true (by kernel_rfl)) (e.mpr h)
  exact h1.mono fun _ _ hq => out1_in (fun h => by cases h) hq

def turn_Turn_Moves.b (x0 : Option Addr) (H : AH) (k : Int → AH → Prop) : Prop :=
  bcase (Option.isNone x0) (k (0 : Int) H) (onPtr x0 fun a9 => elP (AH.cell? H (Addr.add a9 0)) fun p11 => nvm_Memory_Reg p11 (0 : Int) H fun n12a n12b H12 => k (IntKind.wrap .i64 n12a) H12)
def turn_Turn_Moves.ann : Ann := { keep := fun r => match r with  | _ => [], ord := fun r => match r with  | _ => [] }
theorem turn_Turn_Moves.link {x0 : Option Addr} {H : AH} {k : Int → AH → Prop} (h : turn_Turn_Moves.b x0 H k) : turn_Turn_Moves x0 H k := by
  have e : wpC Try.prog T pan Try.f33.ntmps turn_Turn_Moves.ann (Try.f33.body.getD .skip) (argFr [(Value.pointer x0)]) H (bodyK T Try.f33.results.toList fun e H' => out1 (.int .i64) e noPan (fun r0 => k r0 H')) = turn_Turn_Moves.b x0 H k := by kernel_rfl
  have h1 : LCalls Try.prog 33 [(Value.pointer x0)] H (fun e H' => out1 (.int .i64) e noPan (fun r0 => k r0 H')) := lcalls_of hT hm Try.func33 (by kernel_rfl) turn_Turn_Moves.ann (Nat.le_of_ble_eq_true (by kernel_rfl)) (e.mpr h)
  exact h1.mono fun _ _ hq => out1_in (fun h => by cases h) hq

def gap_may.b (x0 : Int) (x1 : Int) (H : AH) (k : Bool → AH → Prop) : Prop :=
  bcase (decide ((x0 : Int) ≥ (1 : Int))) (bcase (decide ((x0 : Int) ≤ (100000 : Int))) (k (decide ((x1 : Int) ≥ (0 : Int))) H) (k false H)) (k false H)
def gap_may.ann : Ann := { keep := fun r => match r with  | _ => [], ord := fun r => match r with  | _ => [] }
theorem gap_may.link {x0 : Int} {x1 : Int} {H : AH} {k : Bool → AH → Prop} (h : gap_may.b x0 x1 H k) : gap_may x0 x1 H k := by
  have e : wpC Try.prog T pan Try.f45.ntmps gap_may.ann (Try.f45.body.getD .skip) (argFr [(Value.int .i64 x0), (Value.int .i64 x1)]) H (bodyK T Try.f45.results.toList fun e H' => out1 .bool e noPan (fun r0 => k r0 H')) = gap_may.b x0 x1 H k := by kernel_rfl
  have h1 : LCalls Try.prog 45 [(Value.int .i64 x0), (Value.int .i64 x1)] H (fun e H' => out1 .bool e noPan (fun r0 => k r0 H')) := lcalls_of hT hm Try.func45 (by kernel_rfl) gap_may.ann (Nat.le_of_ble_eq_true (by kernel_rfl)) (e.mpr h)
  exact h1.mono fun _ _ hq => out1_in (fun h => by cases h) hq

def gap_Gap.b (x0 : Int) (x1 : Int) (H : AH) (k : Int → AH → Prop) : Prop :=
  gap_may x0 x1 H fun b7 H7 => bcase (!b7) (k (-1 : Int) H7) (((IntKind.wrap .i64 (x0 + (1 : Int))) : Int) ≠ 0 ∧ k (IntKind.wrap .i64 (x0 - (Int.tmod x1 (IntKind.wrap .i64 (x0 + (1 : Int)))))) H7)
def gap_Gap.ann : Ann := { keep := fun r => match r with  | _ => [], ord := fun r => match r with  | _ => [] }
theorem gap_Gap.link {x0 : Int} {x1 : Int} {H : AH} {k : Int → AH → Prop} (h : gap_Gap.b x0 x1 H k) : gap_Gap x0 x1 H k := by
  have e : wpC Try.prog T pan Try.f47.ntmps gap_Gap.ann (Try.f47.body.getD .skip) (argFr [(Value.int .i64 x0), (Value.int .i64 x1)]) H (bodyK T Try.f47.results.toList fun e H' => out1 (.int .i64) e noPan (fun r0 => k r0 H')) = gap_Gap.b x0 x1 H k := by kernel_rfl
  have h1 : LCalls Try.prog 47 [(Value.int .i64 x0), (Value.int .i64 x1)] H (fun e H' => out1 (.int .i64) e noPan (fun r0 => k r0 H')) := lcalls_of hT hm Try.func47 (by kernel_rfl) gap_Gap.ann (Nat.le_of_ble_eq_true (by kernel_rfl)) (e.mpr h)
  exact h1.mono fun _ _ hq => out1_in (fun h => by cases h) hq

def gap_Move.b (x0 : Int) (x1 : Int) (H : AH) (k : Int → Int → AH → Prop) : Prop :=
  gap_Gap x0 x1 H fun n8 H8 => bcase ((n8 : Int) == (-1 : Int)) (k (-1 : Int) (-1 : Int) H8) (bcase ((n8 : Int) == (0 : Int)) (k x0 (0 : Int) H8) (k (IntKind.wrap .i64 (n8 - (1 : Int))) n8 H8))
def gap_Move.ann : Ann := { keep := fun r => match r with  | _ => [], ord := fun r => match r with  | _ => [] }
theorem gap_Move.link {x0 : Int} {x1 : Int} {H : AH} {k : Int → Int → AH → Prop} (h : gap_Move.b x0 x1 H k) : gap_Move x0 x1 H k := by
  have e : wpC Try.prog T pan Try.f40.ntmps gap_Move.ann (Try.f40.body.getD .skip) (argFr [(Value.int .i64 x0), (Value.int .i64 x1)]) H (bodyK T Try.f40.results.toList fun e H' => out2 (.int .i64) (.int .i64) e noPan (fun r0 r1 => k r0 r1 H')) = gap_Move.b x0 x1 H k := by kernel_rfl
  have h1 : LCalls Try.prog 40 [(Value.int .i64 x0), (Value.int .i64 x1)] H (fun e H' => out2 (.int .i64) (.int .i64) e noPan (fun r0 r1 => k r0 r1 H')) := lcalls_of hT hm Try.func40 (by kernel_rfl) gap_Move.ann (Nat.le_of_ble_eq_true (by kernel_rfl)) (e.mpr h)
  exact h1.mono fun _ _ hq => out2_in (fun h => by cases h) (fun h => by cases h) hq

def spare_Place.l1 (x0 : Sl) (x1 : Int) (x2 : Int) (k : Int → AH → Prop) (t4 : Int × Int) (HL4 : AH) (it4 : (Int × Int) → AH → Prop) : Prop :=
  bcase (decide ((t4.2 : Int) ≥ (0 : Int))) ((0 ≤ t4.2 ∧ t4.2 < ((x0.n : Nat) : Int)) ∧ onPtr x0.a fun a24 => elI .u64 (AH.cell? HL4 (Addr.add a24 (Int.toNat t4.2 * 1))) fun n25 => bcase ((n25 : Int) == (IntKind.wrap .u64 ((IntKind.wrap .u64 x2) + (1 : Int)))) (k (IntKind.wrap .i64 (x1 + t4.2)) HL4) (it4 (t4.1, (IntKind.wrap .i64 (t4.2 - (1 : Int)))) HL4)) (k x2 HL4)
def spare_Place.j2 (x0 : Sl) (x1 : Int) (x2 : Int) (H : AH) (k : Int → AH → Prop) (x14 : Bool) : Prop :=
  bcase x14 (k (-1 : Int) H) (loopT (spare_Place.l1 x0 x1 x2 k) (((0 : Int), (IntKind.wrap .i64 (((x0.n : Nat) : Int) - (1 : Int)))) : Int × Int) H)
def spare_Place.b (x0 : Sl) (x1 : Int) (x2 : Int) (H : AH) (k : Int → AH → Prop) : Prop :=
  bcase (decide ((x2 : Int) < (0 : Int))) (spare_Place.j2 x0 x1 x2 H k true) (spare_Place.j2 x0 x1 x2 H k (decide ((x2 : Int) ≥ x1)))
def spare_Place.ann : Ann := { keep := fun r => match r with | 4 => [(6, .int .i64), (7, .int .i64)] | _ => [], ord := fun r => match r with  | _ => [] }
theorem spare_Place.link {x0 : Sl} {x1 : Int} {x2 : Int} {H : AH} {k : Int → AH → Prop} (h : spare_Place.b x0 x1 x2 H k) : spare_Place x0 x1 x2 H k := by
  have e : wpC Try.prog T pan Try.f51.ntmps spare_Place.ann (Try.f51.body.getD .skip) (argFr [(Sl.val x0), (Value.int .i64 x1), (Value.int .i64 x2)]) H (bodyK T Try.f51.results.toList fun e H' => out1 (.int .i64) e noPan (fun r0 => k r0 H')) = spare_Place.b x0 x1 x2 H k := by kernel_rfl
  have h1 : LCalls Try.prog 51 [(Sl.val x0), (Value.int .i64 x1), (Value.int .i64 x2)] H (fun e H' => out1 (.int .i64) e noPan (fun r0 => k r0 H')) := lcalls_of hT hm Try.func51 (by kernel_rfl) spare_Place.ann (Nat.le_of_ble_eq_true (by kernel_rfl)) (e.mpr h)
  exact h1.mono fun _ _ hq => out1_in (fun h => by cases h) hq

def lines_Lines_place.j1 (x0 : Option Addr) (x1 : Int) (H : AH) (k : Int → Sl → Int → AH → Prop) (x22 : Bool) : Prop :=
  bcase x22 (k (0 : Int) ⟨none, 0, 0⟩ (1 : Int) H) (lines_Lines_table x0 H fun s25a n25b H25 => onPtr x0 fun a30 => elI .i64 (AH.cell? H25 (Addr.add a30 1)) fun n32 => spare_Place s25a n32 x1 H25 fun n34 H34 => k n34 s25a n25b H34)
def lines_Lines_place.b (x0 : Option Addr) (x1 : Int) (H : AH) (k : Int → Sl → Int → AH → Prop) : Prop :=
  bcase (Option.isNone x0) (lines_Lines_place.j1 x0 x1 H k true) (bcase (decide ((x1 : Int) < (0 : Int))) (lines_Lines_place.j1 x0 x1 H k true) (onPtr x0 fun a18 => elI .i64 (AH.cell? H (Addr.add a18 1)) fun n20 => lines_Lines_place.j1 x0 x1 H k (decide ((x1 : Int) ≥ n20))))
def lines_Lines_place.ann : Ann := { keep := fun r => match r with  | _ => [], ord := fun r => match r with  | _ => [] }
theorem lines_Lines_place.link {x0 : Option Addr} {x1 : Int} {H : AH} {k : Int → Sl → Int → AH → Prop} (h : lines_Lines_place.b x0 x1 H k) : lines_Lines_place x0 x1 H k := by
  have e : wpC Try.prog T pan Try.f41.ntmps lines_Lines_place.ann (Try.f41.body.getD .skip) (argFr [(Value.pointer x0), (Value.int .i64 x1)]) H (bodyK T Try.f41.results.toList fun e H' => out3 (.int .i64) .sl (.int .i64) e noPan (fun r0 r1 r2 => k r0 r1 r2 H')) = lines_Lines_place.b x0 x1 H k := by kernel_rfl
  have h1 : LCalls Try.prog 41 [(Value.pointer x0), (Value.int .i64 x1)] H (fun e H' => out3 (.int .i64) .sl (.int .i64) e noPan (fun r0 r1 r2 => k r0 r1 r2 H')) := lcalls_of hT hm Try.func41 (by kernel_rfl) lines_Lines_place.ann (Nat.le_of_ble_eq_true (by kernel_rfl)) (e.mpr h)
  exact h1.mono fun _ _ hq => out3_in (fun h => by cases h) (fun h => by cases h) (fun h => by cases h) hq

def nvm_Memory_has.b (x0 : Option Addr) (x1 : Int) (H : AH) (k : Bool → AH → Prop) : Prop :=
  bcase (decide ((x1 : Int) ≥ (0 : Int))) (nvm_Memory_Lines x0 H fun n10 H10 => k (decide ((x1 : Int) < n10)) H10) (k false H)
def nvm_Memory_has.ann : Ann := { keep := fun r => match r with  | _ => [], ord := fun r => match r with  | _ => [] }
theorem nvm_Memory_has.link {x0 : Option Addr} {x1 : Int} {H : AH} {k : Bool → AH → Prop} (h : nvm_Memory_has.b x0 x1 H k) : nvm_Memory_has x0 x1 H k := by
  have e : wpC Try.prog T pan Try.f52.ntmps nvm_Memory_has.ann (Try.f52.body.getD .skip) (argFr [(Value.pointer x0), (Value.int .i64 x1)]) H (bodyK T Try.f52.results.toList fun e H' => out1 .bool e noPan (fun r0 => k r0 H')) = nvm_Memory_has.b x0 x1 H k := by kernel_rfl
  have h1 : LCalls Try.prog 52 [(Value.pointer x0), (Value.int .i64 x1)] H (fun e H' => out1 .bool e noPan (fun r0 => k r0 H')) := lcalls_of hT hm Try.func52 (by kernel_rfl) nvm_Memory_has.ann (Nat.le_of_ble_eq_true (by kernel_rfl)) (e.mpr h)
  exact h1.mono fun _ _ hq => out1_in (fun h => by cases h) hq

def nvm_Memory_Get.b (x0 : Option Addr) (x1 : Int) (H : AH) (k : List Value → Int → AH → Prop) : Prop :=
  newC H ⟨[(Value.int .u64 (0 : Int)), (Value.int .u64 (0 : Int)), (Value.int .u64 (0 : Int)), (Value.int .u64 (0 : Int)), (Value.int .u64 (0 : Int)), (Value.int .u64 (0 : Int)), (Value.int .u64 (0 : Int)), (Value.int .u64 (0 : Int))], .rw, 0⟩ fun o4 H4 => nvm_Memory_has x0 x1 H4 fun b9 H9 => bcase (!b9) ((List.length [(Value.int .u64 (0 : Int)), (Value.int .u64 (0 : Int)), (Value.int .u64 (0 : Int)), (Value.int .u64 (0 : Int)), (Value.int .u64 (0 : Int)), (Value.int .u64 (0 : Int)), (Value.int .u64 (0 : Int)), (Value.int .u64 (0 : Int))] = 8 ∧ List.all [(Value.int .u64 (0 : Int)), (Value.int .u64 (0 : Int)), (Value.int .u64 (0 : Int)), (Value.int .u64 (0 : Int)), (Value.int .u64 (0 : Int)), (Value.int .u64 (0 : Int)), (Value.int .u64 (0 : Int)), (Value.int .u64 (0 : Int))] cellOK = true) ∧ stC H9 ⟨o4, 0, none⟩ [(Value.int .u64 (0 : Int)), (Value.int .u64 (0 : Int)), (Value.int .u64 (0 : Int)), (Value.int .u64 (0 : Int)), (Value.int .u64 (0 : Int)), (Value.int .u64 (0 : Int)), (Value.int .u64 (0 : Int)), (Value.int .u64 (0 : Int))] fun Hs2 => ldA Hs2 ⟨o4, 0, none⟩ 8 fun r0 => k r0 (1 : Int) Hs2) (onPtr x0 fun a14 => elB (AH.cell? H9 (Addr.add a14 39)) fun b16 => bcase b16 ((List.length [(Value.int .u64 (0 : Int)), (Value.int .u64 (0 : Int)), (Value.int .u64 (0 : Int)), (Value.int .u64 (0 : Int)), (Value.int .u64 (0 : Int)), (Value.int .u64 (0 : Int)), (Value.int .u64 (0 : Int)), (Value.int .u64 (0 : Int))] = 8 ∧ List.all [(Value.int .u64 (0 : Int)), (Value.int .u64 (0 : Int)), (Value.int .u64 (0 : Int)), (Value.int .u64 (0 : Int)), (Value.int .u64 (0 : Int)), (Value.int .u64 (0 : Int)), (Value.int .u64 (0 : Int)), (Value.int .u64 (0 : Int))] cellOK = true) ∧ stC H9 ⟨o4, 0, none⟩ [(Value.int .u64 (0 : Int)), (Value.int .u64 (0 : Int)), (Value.int .u64 (0 : Int)), (Value.int .u64 (0 : Int)), (Value.int .u64 (0 : Int)), (Value.int .u64 (0 : Int)), (Value.int .u64 (0 : Int)), (Value.int .u64 (0 : Int))] fun Hs4 => ldA Hs4 ⟨o4, 0, none⟩ 8 fun r0 => k r0 (2 : Int) Hs4) (onPtr x0 fun a19 => elL (AH.cell? H9 (Addr.add a19 0)) fun s21 => (0 ≤ x1 ∧ x1 < ((s21.n : Nat) : Int)) ∧ onPtr s21.a fun a23 => ldA H9 (Addr.add (Addr.add a23 (Int.toNat x1 * 10)) 0) 8 fun c25 => (List.length c25 = 8 ∧ List.all c25 cellOK = true) ∧ stC H9 ⟨o4, 0, none⟩ c25 fun Hs6 => ldA Hs6 ⟨o4, 0, none⟩ 8 fun r0 => k r0 (0 : Int) Hs6))
def nvm_Memory_Get.ann : Ann := { keep := fun r => match r with  | _ => [], ord := fun r => match r with  | _ => [] }
theorem nvm_Memory_Get.link {x0 : Option Addr} {x1 : Int} {H : AH} {k : List Value → Int → AH → Prop} (h : nvm_Memory_Get.b x0 x1 H k) : nvm_Memory_Get x0 x1 H k := by
  have e : wpC Try.prog T pan Try.f50.ntmps nvm_Memory_Get.ann (Try.f50.body.getD .skip) (argFr [(Value.pointer x0), (Value.int .i64 x1)]) H (bodyK T Try.f50.results.toList fun e H' => out2 .agg (.int .i64) e noPan (fun r0 r1 => k r0 r1 H')) = nvm_Memory_Get.b x0 x1 H k := by kernel_rfl
  have h1 : LCalls Try.prog 50 [(Value.pointer x0), (Value.int .i64 x1)] H (fun e H' => out2 .agg (.int .i64) e noPan (fun r0 r1 => k r0 r1 H')) := lcalls_of hT hm Try.func50 (by kernel_rfl) nvm_Memory_Get.ann (Nat.le_of_ble_eq_true (by kernel_rfl)) (e.mpr h)
  exact h1.mono fun _ _ hq => out2_in (fun h => by cases h) (fun h => by cases h) hq

def lines_Lines_Get.b (x0 : Option Addr) (x1 : Int) (H : AH) (k : List Value → Int → AH → Prop) : Prop :=
  newC H ⟨[(Value.int .u64 (0 : Int)), (Value.int .u64 (0 : Int)), (Value.int .u64 (0 : Int)), (Value.int .u64 (0 : Int)), (Value.int .u64 (0 : Int)), (Value.int .u64 (0 : Int)), (Value.int .u64 (0 : Int)), (Value.int .u64 (0 : Int))], .rw, 0⟩ fun o4 H4 => lines_Lines_place x0 x1 H4 fun n12a s12b n12c H12 => bcase ((n12c : Int) != (0 : Int)) ((List.length [(Value.int .u64 (0 : Int)), (Value.int .u64 (0 : Int)), (Value.int .u64 (0 : Int)), (Value.int .u64 (0 : Int)), (Value.int .u64 (0 : Int)), (Value.int .u64 (0 : Int)), (Value.int .u64 (0 : Int)), (Value.int .u64 (0 : Int))] = 8 ∧ List.all [(Value.int .u64 (0 : Int)), (Value.int .u64 (0 : Int)), (Value.int .u64 (0 : Int)), (Value.int .u64 (0 : Int)), (Value.int .u64 (0 : Int)), (Value.int .u64 (0 : Int)), (Value.int .u64 (0 : Int)), (Value.int .u64 (0 : Int))] cellOK = true) ∧ stC H12 ⟨o4, 0, none⟩ [(Value.int .u64 (0 : Int)), (Value.int .u64 (0 : Int)), (Value.int .u64 (0 : Int)), (Value.int .u64 (0 : Int)), (Value.int .u64 (0 : Int)), (Value.int .u64 (0 : Int)), (Value.int .u64 (0 : Int)), (Value.int .u64 (0 : Int))] fun Hs2 => ldA Hs2 ⟨o4, 0, none⟩ 8 fun r0 => k r0 n12c Hs2) (onPtr x0 fun a21 => elP (AH.cell? H12 (Addr.add a21 0)) fun p23 => nvm_Memory_Get p23 n12a H12 fun c25a n25b H25 => (List.length c25a = 8 ∧ List.all c25a cellOK = true) ∧ stC H25 ⟨o4, 0, none⟩ c25a fun Hs4 => ldA Hs4 ⟨o4, 0, none⟩ 8 fun r0 => k r0 n25b Hs4)
def lines_Lines_Get.ann : Ann := { keep := fun r => match r with  | _ => [], ord := fun r => match r with  | _ => [] }
theorem lines_Lines_Get.link {x0 : Option Addr} {x1 : Int} {H : AH} {k : List Value → Int → AH → Prop} (h : lines_Lines_Get.b x0 x1 H k) : lines_Lines_Get x0 x1 H k := by
  have e : wpC Try.prog T pan Try.f39.ntmps lines_Lines_Get.ann (Try.f39.body.getD .skip) (argFr [(Value.pointer x0), (Value.int .i64 x1)]) H (bodyK T Try.f39.results.toList fun e H' => out2 .agg (.int .i64) e noPan (fun r0 r1 => k r0 r1 H')) = lines_Lines_Get.b x0 x1 H k := by kernel_rfl
  have h1 : LCalls Try.prog 39 [(Value.pointer x0), (Value.int .i64 x1)] H (fun e H' => out2 .agg (.int .i64) e noPan (fun r0 r1 => k r0 r1 H')) := lcalls_of hT hm Try.func39 (by kernel_rfl) lines_Lines_Get.ann (Nat.le_of_ble_eq_true (by kernel_rfl)) (e.mpr h)
  exact h1.mono fun _ _ hq => out2_in (fun h => by cases h) (fun h => by cases h) hq

def nvm_Memory_write.b (x0 : Option Addr) (H : AH) (k : Int → AH → Prop) : Prop :=
  onPtr x0 fun a4 => elI .i64 (AH.cell? H (Addr.add a4 36)) fun n6 => onPtr x0 fun a8 => stC H (Addr.add a8 36) [(Value.int .i64 (IntKind.wrap .i64 (n6 + (1 : Int))))] fun Hs2 => onPtr x0 fun a12 => elI .i64 (AH.cell? Hs2 (Addr.add a12 37)) fun n14 => bcase ((n14 : Int) == (0 : Int)) (onPtr x0 fun a17 => stC Hs2 (Addr.add a17 39) [(Value.bool true)] fun Hs4 => onPtr x0 fun a20 => elI .i64 (AH.cell? Hs4 (Addr.add a20 38)) fun n22 => k n22 Hs4) (onPtr x0 fun a25 => elI .i64 (AH.cell? Hs2 (Addr.add a25 37)) fun n27 => bcase (decide ((n27 : Int) > (0 : Int))) (onPtr x0 fun a30 => elI .i64 (AH.cell? Hs2 (Addr.add a30 37)) fun n32 => onPtr x0 fun a34 => stC Hs2 (Addr.add a34 37) [(Value.int .i64 (IntKind.wrap .i64 (n32 - (1 : Int))))] fun Hs6 => k (-1 : Int) Hs6) (k (-1 : Int) Hs2))
def nvm_Memory_write.ann : Ann := { keep := fun r => match r with  | _ => [], ord := fun r => match r with  | _ => [] }
theorem nvm_Memory_write.link {x0 : Option Addr} {H : AH} {k : Int → AH → Prop} (h : nvm_Memory_write.b x0 H k) : nvm_Memory_write x0 H k := by
  have e : wpC Try.prog T pan Try.f35.ntmps nvm_Memory_write.ann (Try.f35.body.getD .skip) (argFr [(Value.pointer x0)]) H (bodyK T Try.f35.results.toList fun e H' => out1 (.int .i64) e noPan (fun r0 => k r0 H')) = nvm_Memory_write.b x0 H k := by kernel_rfl
  have h1 : LCalls Try.prog 35 [(Value.pointer x0)] H (fun e H' => out1 (.int .i64) e noPan (fun r0 => k r0 H')) := lcalls_of hT hm Try.func35 (by kernel_rfl) nvm_Memory_write.ann (Nat.le_of_ble_eq_true (by kernel_rfl)) (e.mpr h)
  exact h1.mono fun _ _ hq => out1_in (fun h => by cases h) hq

def torn_Mix.j1 (k : List Value → AH → Prop) (o3 : Nat) (o6 : Nat) (HL2 : AH) : Prop :=
  ldA HL2 ⟨o3, 0, none⟩ 8 fun c23 => (List.length c23 = 8 ∧ List.all c23 cellOK = true) ∧ stC HL2 ⟨o6, 0, none⟩ c23 fun Hs2 => ldA Hs2 ⟨o6, 0, none⟩ 8 fun r0 => k r0 Hs2
def torn_Mix.l2 (x2 : Int) (k : List Value → AH → Prop) (o3 : Nat) (o6 : Nat) (c9 : List Value) (t2 : Int) (HL2 : AH) (it2 : (Int) → AH → Prop) : Prop :=
  bcase (decide ((t2 : Int) < (8 : Int))) ((0 ≤ t2 ∧ t2 < ((8 : Nat) : Int)) ∧ elI .u64 ((c9)[(Int.toNat t2 * 1)]?) fun n13 => (0 : Int) ≤ t2 ∧ bcase (((andI .i64 (shrI .i64 x2 t2) (1 : Int)) : Int) == (1 : Int)) ((0 ≤ t2 ∧ t2 < ((8 : Nat) : Int)) ∧ stC HL2 (Addr.add ⟨o3, 0, none⟩ (Int.toNat t2 * 1)) [(Value.int .u64 n13)] fun Hs4 => it2 (IntKind.wrap .i64 (t2 + (1 : Int))) Hs4) (it2 (IntKind.wrap .i64 (t2 + (1 : Int))) HL2)) (torn_Mix.j1 k o3 o6 HL2)
def torn_Mix.b (x0 : List Value) (x1 : List Value) (x2 : Int) (H : AH) (k : List Value → AH → Prop) : Prop :=
  newC H ⟨x0, .rw, 0⟩ fun o3 H3 => newC H3 ⟨x1, .rw, 0⟩ fun o4 H4 => newC H4 ⟨[(Value.int .u64 (0 : Int)), (Value.int .u64 (0 : Int)), (Value.int .u64 (0 : Int)), (Value.int .u64 (0 : Int)), (Value.int .u64 (0 : Int)), (Value.int .u64 (0 : Int)), (Value.int .u64 (0 : Int)), (Value.int .u64 (0 : Int))], .rw, 0⟩ fun o6 H6 => ldA H6 ⟨o4, 0, none⟩ 8 fun c9 => loopT (torn_Mix.l2 x2 k o3 o6 c9) (((0 : Int)) : Int) H6
def torn_Mix.ann : Ann := { keep := fun r => match r with | 2 => [(10, .int .i64)] | _ => [], ord := fun r => match r with  | _ => [] }
theorem torn_Mix.link {x0 : List Value} {x1 : List Value} {x2 : Int} {H : AH} {k : List Value → AH → Prop} (h : torn_Mix.b x0 x1 x2 H k) : torn_Mix x0 x1 x2 H k := by
  have e : wpC Try.prog T pan Try.f53.ntmps torn_Mix.ann (Try.f53.body.getD .skip) (argFr [(Value.agg (List.toArray x0)), (Value.agg (List.toArray x1)), (Value.int .i64 x2)]) H (bodyK T Try.f53.results.toList fun e H' => out1 .agg e noPan (fun r0 => k r0 H')) = torn_Mix.b x0 x1 x2 H k := by kernel_rfl
  have h1 : LCalls Try.prog 53 [(Value.agg (List.toArray x0)), (Value.agg (List.toArray x1)), (Value.int .i64 x2)] H (fun e H' => out1 .agg e noPan (fun r0 => k r0 H')) := lcalls_of hT hm Try.func53 (by kernel_rfl) torn_Mix.ann (Nat.le_of_ble_eq_true (by kernel_rfl)) (e.mpr h)
  exact h1.mono fun _ _ hq => out1_in (fun h => by cases h) hq

def nvm_Memory_told.b (x0 : Option Addr) (x1 : Bool) (H : AH) (k : Int → AH → Prop) : Prop :=
  onPtr x0 fun a7 => elB (AH.cell? H (Addr.add a7 39)) fun b9 => bcase b9 (k (2 : Int) H) (bcase x1 (k (3 : Int) H) (k (0 : Int) H))
def nvm_Memory_told.ann : Ann := { keep := fun r => match r with  | _ => [], ord := fun r => match r with  | _ => [] }
theorem nvm_Memory_told.link {x0 : Option Addr} {x1 : Bool} {H : AH} {k : Int → AH → Prop} (h : nvm_Memory_told.b x0 x1 H k) : nvm_Memory_told x0 x1 H k := by
  have e : wpC Try.prog T pan Try.f36.ntmps nvm_Memory_told.ann (Try.f36.body.getD .skip) (argFr [(Value.pointer x0), (Value.bool x1)]) H (bodyK T Try.f36.results.toList fun e H' => out1 (.int .i64) e noPan (fun r0 => k r0 H')) = nvm_Memory_told.b x0 x1 H k := by kernel_rfl
  have h1 : LCalls Try.prog 36 [(Value.pointer x0), (Value.bool x1)] H (fun e H' => out1 (.int .i64) e noPan (fun r0 => k r0 H')) := lcalls_of hT hm Try.func36 (by kernel_rfl) nvm_Memory_told.ann (Nat.le_of_ble_eq_true (by kernel_rfl)) (e.mpr h)
  exact h1.mono fun _ _ hq => out1_in (fun h => by cases h) hq

def nvm_Memory_Put.j1 (x0 : Option Addr) (k : Int → AH → Prop) (x9 : Bool) (Hj : AH) : Prop :=
  nvm_Memory_told x0 x9 Hj fun n65 H65 => k n65 H65
def nvm_Memory_Put.j2 (x0 : Option Addr) (x1 : Int) (k : Int → AH → Prop) (o5 : Nat) (H21 : AH) (n21 : Int) (a27 : Addr) (x9 : Bool) : Prop :=
  bcase (!x9) (ldA H21 (Addr.add (Addr.add a27 (Int.toNat x1 * 10)) 0) 8 fun c50 => ldA H21 ⟨o5, 0, none⟩ 8 fun c51 => torn_Mix c50 c51 n21 H21 fun c53 H53 => (List.length c53 = 8 ∧ List.all c53 cellOK = true) ∧ stC H53 (Addr.add (Addr.add a27 (Int.toNat x1 * 10)) 0) c53 fun Hs2 => elI .i64 (AH.cell? Hs2 (Addr.add (Addr.add a27 (Int.toNat x1 * 10)) 8)) fun n59 => stC Hs2 (Addr.add (Addr.add a27 (Int.toNat x1 * 10)) 8) [(Value.int .i64 (IntKind.wrap .i64 (n59 + (1 : Int))))] fun Hs4 => nvm_Memory_Put.j1 x0 k x9 Hs4) (nvm_Memory_Put.j1 x0 k x9 H21)
def nvm_Memory_Put.b (x0 : Option Addr) (x1 : Int) (x2 : List Value) (H : AH) (k : Int → AH → Prop) : Prop :=
  newC H ⟨x2, .rw, 0⟩ fun o5 H5 => nvm_Memory_has x0 x1 H5 fun b13 H13 => bcase (!b13) (k (1 : Int) H13) (onPtr x0 fun a17 => elB (AH.cell? H13 (Addr.add a17 39)) fun b19 => bcase b19 (k (2 : Int) H13) (nvm_Memory_write x0 H13 fun n21 H21 => onPtr x0 fun a23 => elL (AH.cell? H21 (Addr.add a23 0)) fun s25 => (0 ≤ x1 ∧ x1 < ((s25.n : Nat) : Int)) ∧ onPtr s25.a fun a27 => elI .i64 (AH.cell? H21 (Addr.add (Addr.add a27 (Int.toNat x1 * 10)) 9)) fun n31 => bcase (decide ((n31 : Int) ≥ (0 : Int))) (elI .i64 (AH.cell? H21 (Addr.add (Addr.add a27 (Int.toNat x1 * 10)) 8)) fun n37 => elI .i64 (AH.cell? H21 (Addr.add (Addr.add a27 (Int.toNat x1 * 10)) 9)) fun n41 => nvm_Memory_Put.j2 x0 x1 k o5 H21 n21 a27 (decide ((n37 : Int) ≥ n41))) (nvm_Memory_Put.j2 x0 x1 k o5 H21 n21 a27 false)))
def nvm_Memory_Put.ann : Ann := { keep := fun r => match r with  | _ => [], ord := fun r => match r with | 7 => [0, 1, 2, 3, 4, 5, 6, 7, 8, 9, 10, 11, 12, 13, 14, 15, 16] | 9 => [0, 1, 2, 3, 4, 5, 6, 7, 8, 9, 10] | _ => [] }
theorem nvm_Memory_Put.link {x0 : Option Addr} {x1 : Int} {x2 : List Value} {H : AH} {k : Int → AH → Prop} (h : nvm_Memory_Put.b x0 x1 x2 H k) : nvm_Memory_Put x0 x1 x2 H k := by
  have e : wpC Try.prog T pan Try.f42.ntmps nvm_Memory_Put.ann (Try.f42.body.getD .skip) (argFr [(Value.pointer x0), (Value.int .i64 x1), (Value.agg (List.toArray x2))]) H (bodyK T Try.f42.results.toList fun e H' => out1 (.int .i64) e noPan (fun r0 => k r0 H')) = nvm_Memory_Put.b x0 x1 x2 H k := by kernel_rfl
  have h1 : LCalls Try.prog 42 [(Value.pointer x0), (Value.int .i64 x1), (Value.agg (List.toArray x2))] H (fun e H' => out1 (.int .i64) e noPan (fun r0 => k r0 H')) := lcalls_of hT hm Try.func42 (by kernel_rfl) nvm_Memory_Put.ann (Nat.le_of_ble_eq_true (by kernel_rfl)) (e.mpr h)
  exact h1.mono fun _ _ hq => out1_in (fun h => by cases h) hq

def spare_Next.l1 (x0 : Sl) (k : Int → AH → Prop) (t2 : Int × Int) (HL2 : AH) (it2 : (Int × Int) → AH → Prop) : Prop :=
  bcase (decide ((t2.2 : Int) < ((x0.n : Nat) : Int))) ((0 ≤ t2.2 ∧ t2.2 < ((x0.n : Nat) : Int)) ∧ onPtr x0.a fun a10 => elI .u64 (AH.cell? HL2 (Addr.add a10 (Int.toNat t2.2 * 1))) fun n11 => bcase ((n11 : Int) == (0 : Int)) (k t2.2 HL2) (it2 (t2.1, (IntKind.wrap .i64 (t2.2 + (1 : Int)))) HL2)) (k (-1 : Int) HL2)
def spare_Next.b (x0 : Sl) (H : AH) (k : Int → AH → Prop) : Prop :=
  loopT (spare_Next.l1 x0 k) (((0 : Int), (0 : Int)) : Int × Int) H
def spare_Next.ann : Ann := { keep := fun r => match r with | 2 => [(2, .int .i64), (7, .int .i64)] | _ => [], ord := fun r => match r with  | _ => [] }
theorem spare_Next.link {x0 : Sl} {H : AH} {k : Int → AH → Prop} (h : spare_Next.b x0 H k) : spare_Next x0 H k := by
  have e : wpC Try.prog T pan Try.f43.ntmps spare_Next.ann (Try.f43.body.getD .skip) (argFr [(Sl.val x0)]) H (bodyK T Try.f43.results.toList fun e H' => out1 (.int .i64) e noPan (fun r0 => k r0 H')) = spare_Next.b x0 H k := by kernel_rfl
  have h1 : LCalls Try.prog 43 [(Sl.val x0)] H (fun e H' => out1 (.int .i64) e noPan (fun r0 => k r0 H')) := lcalls_of hT hm Try.func43 (by kernel_rfl) spare_Next.ann (Nat.le_of_ble_eq_true (by kernel_rfl)) (e.mpr h)
  exact h1.mono fun _ _ hq => out1_in (fun h => by cases h) hq

def nvm_Memory_Set.j1 (x0 : Option Addr) (k : Int → AH → Prop) (Hj : AH) : Prop :=
  nvm_Memory_told x0 false Hj fun n28 H28 => k n28 H28
def nvm_Memory_Set.b (x0 : Option Addr) (x1 : Int) (x2 : Int) (H : AH) (k : Int → AH → Prop) : Prop :=
  nvm_Memory_hasReg x0 x1 H fun b10 H10 => bcase (!b10) (k (1 : Int) H10) (onPtr x0 fun a14 => elB (AH.cell? H10 (Addr.add a14 39)) fun b16 => bcase b16 (k (2 : Int) H10) (nvm_Memory_write x0 H10 fun n18 H18 => bcase (((andI .i64 n18 (1 : Int)) : Int) == (1 : Int)) (onPtr x0 fun a24 => (0 ≤ x1 ∧ x1 < ((35 : Nat) : Int)) ∧ stC H18 (Addr.add (Addr.add a24 1) (Int.toNat x1 * 1)) [(Value.int .u64 x2)] fun Hs2 => nvm_Memory_Set.j1 x0 k Hs2) (nvm_Memory_Set.j1 x0 k H18)))
def nvm_Memory_Set.ann : Ann := { keep := fun r => match r with  | _ => [], ord := fun r => match r with  | _ => [] }
theorem nvm_Memory_Set.link {x0 : Option Addr} {x1 : Int} {x2 : Int} {H : AH} {k : Int → AH → Prop} (h : nvm_Memory_Set.b x0 x1 x2 H k) : nvm_Memory_Set x0 x1 x2 H k := by
  have e : wpC Try.prog T pan Try.f22.ntmps nvm_Memory_Set.ann (Try.f22.body.getD .skip) (argFr [(Value.pointer x0), (Value.int .i64 x1), (Value.int .u64 x2)]) H (bodyK T Try.f22.results.toList fun e H' => out1 (.int .i64) e noPan (fun r0 => k r0 H')) = nvm_Memory_Set.b x0 x1 x2 H k := by kernel_rfl
  have h1 : LCalls Try.prog 22 [(Value.pointer x0), (Value.int .i64 x1), (Value.int .u64 x2)] H (fun e H' => out1 (.int .i64) e noPan (fun r0 => k r0 H')) := lcalls_of hT hm Try.func22 (by kernel_rfl) nvm_Memory_Set.ann (Nat.le_of_ble_eq_true (by kernel_rfl)) (e.mpr h)
  exact h1.mono fun _ _ hq => out1_in (fun h => by cases h) hq

def lines_Lines_Put.l1 (x0 : Option Addr) (x1 : Int) (k : Int → AH → Prop) (o5 : Nat) (t11 : Int × Int) (HL11 : AH) (it11 : (Int × Int) → AH → Prop) : Prop :=
  onPtr x0 fun a43 => elI .i64 (AH.cell? HL11 (Addr.add a43 2)) fun n45 => bcase (decide ((t11.2 : Int) < n45)) (onPtr x0 fun a53 => elP (AH.cell? HL11 (Addr.add a53 0)) fun p55 => onPtr x0 fun a57 => elI .i64 (AH.cell? HL11 (Addr.add a57 1)) fun n59 => ldA HL11 ⟨o5, 0, none⟩ 8 fun c62 => nvm_Memory_Put p55 (IntKind.wrap .i64 (n59 + t11.2)) c62 HL11 fun n63 H63 => bcase ((n63 : Int) == (0 : Int)) (onPtr x0 fun a69 => elP (AH.cell? H63 (Addr.add a69 0)) fun p71 => nvm_Memory_Set p71 (IntKind.wrap .i64 ((3 : Int) + t11.2)) (IntKind.wrap .u64 ((IntKind.wrap .u64 x1) + (1 : Int))) H63 fun n75 H75 => k n75 H75) (bcase ((n63 : Int) == (3 : Int)) (onPtr x0 fun a79 => elI .i64 (AH.cell? H63 (Addr.add a79 1)) fun n81 => spare_Dead n81 H63 fun n82 H82 => onPtr x0 fun a84 => elP (AH.cell? H82 (Addr.add a84 0)) fun p86 => nvm_Memory_Set p86 (IntKind.wrap .i64 ((3 : Int) + t11.2)) n82 H82 fun n90 H90 => bcase ((n90 : Int) != (0 : Int)) (k n90 H90) (it11 (t11.1, (IntKind.wrap .i64 (t11.2 + (1 : Int)))) H90)) (k n63 H63))) (k (3 : Int) HL11)
def lines_Lines_Put.b (x0 : Option Addr) (x1 : Int) (x2 : List Value) (H : AH) (k : Int → AH → Prop) : Prop :=
  newC H ⟨x2, .rw, 0⟩ fun o5 H5 => lines_Lines_place x0 x1 H5 fun n19a s19b n19c H19 => bcase ((n19c : Int) != (0 : Int)) (k n19c H19) (onPtr x0 fun a27 => elP (AH.cell? H19 (Addr.add a27 0)) fun p29 => ldA H19 ⟨o5, 0, none⟩ 8 fun c31 => nvm_Memory_Put p29 n19a c31 H19 fun n32 H32 => bcase ((n32 : Int) != (3 : Int)) (k n32 H32) (spare_Next s19b H32 fun n37 H37 => bcase (decide ((n37 : Int) < (0 : Int))) (k (3 : Int) H37) (loopT (lines_Lines_Put.l1 x0 x1 k o5) (((0 : Int), n37) : Int × Int) H37)))
def lines_Lines_Put.ann : Ann := { keep := fun r => match r with | 11 => [(6, .int .i64), (12, .int .i64)] | _ => [], ord := fun r => match r with | 4 => [0, 1, 2, 3, 4, 5, 6, 7] | 14 => [0, 1, 2, 3, 4, 5, 6, 7, 8, 9, 10, 11, 12] | _ => [] }
theorem lines_Lines_Put.link {x0 : Option Addr} {x1 : Int} {x2 : List Value} {H : AH} {k : Int → AH → Prop} (h : lines_Lines_Put.b x0 x1 x2 H k) : lines_Lines_Put x0 x1 x2 H k := by
  have e : wpC Try.prog T pan Try.f31.ntmps lines_Lines_Put.ann (Try.f31.body.getD .skip) (argFr [(Value.pointer x0), (Value.int .i64 x1), (Value.agg (List.toArray x2))]) H (bodyK T Try.f31.results.toList fun e H' => out1 (.int .i64) e noPan (fun r0 => k r0 H')) = lines_Lines_Put.b x0 x1 x2 H k := by kernel_rfl
  have h1 : LCalls Try.prog 31 [(Value.pointer x0), (Value.int .i64 x1), (Value.agg (List.toArray x2))] H (fun e H' => out1 (.int .i64) e noPan (fun r0 => k r0 H')) := lcalls_of hT hm Try.func31 (by kernel_rfl) lines_Lines_Put.ann (Nat.le_of_ble_eq_true (by kernel_rfl)) (e.mpr h)
  exact h1.mono fun _ _ hq => out1_in (fun h => by cases h) hq

def turn_Turn_move.b (x0 : Option Addr) (H : AH) (k : Int → AH → Prop) : Prop :=
  turn_Turn_Moves x0 H fun n10 H10 => onPtr x0 fun a13 => elI .i64 (AH.cell? H10 (Addr.add a13 2)) fun n15 => gap_Move n15 n10 H10 fun n17a n17b H17 => onPtr x0 fun a22 => elP (AH.cell? H17 (Addr.add a22 1)) fun p24 => lines_Lines_Get p24 n17a H17 fun c26a n26b H26 => newC H26 ⟨[(Value.int .u64 (0 : Int)), (Value.int .u64 (0 : Int)), (Value.int .u64 (0 : Int)), (Value.int .u64 (0 : Int)), (Value.int .u64 (0 : Int)), (Value.int .u64 (0 : Int)), (Value.int .u64 (0 : Int)), (Value.int .u64 (0 : Int))], .rw, 0⟩ fun o6 H6 => (List.length c26a = 8 ∧ List.all c26a cellOK = true) ∧ stC H6 ⟨o6, 0, none⟩ c26a fun Hs2 => bcase ((n26b : Int) != (0 : Int)) (k n26b Hs2) (onPtr x0 fun a33 => elP (AH.cell? Hs2 (Addr.add a33 1)) fun p35 => ldA Hs2 ⟨o6, 0, none⟩ 8 fun c37 => lines_Lines_Put p35 n17b c37 Hs2 fun n38 H38 => bcase ((n38 : Int) != (0 : Int)) (k n38 H38) (onPtr x0 fun a43 => elP (AH.cell? H38 (Addr.add a43 0)) fun p45 => nvm_Memory_Set p45 (0 : Int) (IntKind.wrap .u64 ((IntKind.wrap .u64 n10) + (1 : Int))) H38 fun n49 H49 => k n49 H49))
def turn_Turn_move.ann : Ann := { keep := fun r => match r with  | _ => [], ord := fun r => match r with | 6 => [0, 1, 2, 3, 4, 5, 6, 7] | _ => [] }
theorem turn_Turn_move.link {x0 : Option Addr} {H : AH} {k : Int → AH → Prop} (h : turn_Turn_move.b x0 H k) : turn_Turn_move x0 H k := by
  have e : wpC Try.prog T pan Try.f30.ntmps turn_Turn_move.ann (Try.f30.body.getD .skip) (argFr [(Value.pointer x0)]) H (bodyK T Try.f30.results.toList fun e H' => out1 (.int .i64) e noPan (fun r0 => k r0 H')) = turn_Turn_move.b x0 H k := by kernel_rfl
  have h1 : LCalls Try.prog 30 [(Value.pointer x0)] H (fun e H' => out1 (.int .i64) e noPan (fun r0 => k r0 H')) := lcalls_of hT hm Try.func30 (by kernel_rfl) turn_Turn_move.ann (Nat.le_of_ble_eq_true (by kernel_rfl)) (e.mpr h)
  exact h1.mono fun _ _ hq => out1_in (fun h => by cases h) hq

def gap_turned.b (x0 : Int) (x1 : Int) (H : AH) (k : Int → AH → Prop) : Prop :=
  ((IntKind.wrap .i64 (x0 + (1 : Int))) : Int) ≠ 0 ∧ (x0 : Int) ≠ 0 ∧ k (Int.tmod (IntKind.wrap .i64 (Int.tdiv x1 (IntKind.wrap .i64 (x0 + (1 : Int))))) x0) H
def gap_turned.ann : Ann := { keep := fun r => match r with  | _ => [], ord := fun r => match r with  | _ => [] }
theorem gap_turned.link {x0 : Int} {x1 : Int} {H : AH} {k : Int → AH → Prop} (h : gap_turned.b x0 x1 H k) : gap_turned x0 x1 H k := by
  have e : wpC Try.prog T pan Try.f46.ntmps gap_turned.ann (Try.f46.body.getD .skip) (argFr [(Value.int .i64 x0), (Value.int .i64 x1)]) H (bodyK T Try.f46.results.toList fun e H' => out1 (.int .i64) e noPan (fun r0 => k r0 H')) = gap_turned.b x0 x1 H k := by kernel_rfl
  have h1 : LCalls Try.prog 46 [(Value.int .i64 x0), (Value.int .i64 x1)] H (fun e H' => out1 (.int .i64) e noPan (fun r0 => k r0 H')) := lcalls_of hT hm Try.func46 (by kernel_rfl) gap_turned.ann (Nat.le_of_ble_eq_true (by kernel_rfl)) (e.mpr h)
  exact h1.mono fun _ _ hq => out1_in (fun h => by cases h) hq

def gap_Slot.j1 (x0 : Int) (x1 : Int) (x2 : Int) (k : Int → AH → Prop) (H10 : AH) (x20 : Bool) : Prop :=
  bcase x20 (k (-1 : Int) H10) (gap_turned x0 x1 H10 fun n24 H24 => (x0 : Int) ≠ 0 ∧ gap_Gap x0 x1 H24 fun n31 H31 => bcase (decide (((Int.tmod (IntKind.wrap .i64 (x2 + n24)) x0) : Int) ≥ n31)) (k (IntKind.wrap .i64 ((Int.tmod (IntKind.wrap .i64 (x2 + n24)) x0) + (1 : Int))) H31) (k (Int.tmod (IntKind.wrap .i64 (x2 + n24)) x0) H31))
def gap_Slot.b (x0 : Int) (x1 : Int) (x2 : Int) (H : AH) (k : Int → AH → Prop) : Prop :=
  gap_may x0 x1 H fun b10 H10 => bcase (!b10) (gap_Slot.j1 x0 x1 x2 k H10 true) (bcase (decide ((x2 : Int) < (0 : Int))) (gap_Slot.j1 x0 x1 x2 k H10 true) (gap_Slot.j1 x0 x1 x2 k H10 (decide ((x2 : Int) ≥ x0))))
def gap_Slot.ann : Ann := { keep := fun r => match r with  | _ => [], ord := fun r => match r with  | _ => [] }
theorem gap_Slot.link {x0 : Int} {x1 : Int} {x2 : Int} {H : AH} {k : Int → AH → Prop} (h : gap_Slot.b x0 x1 x2 H k) : gap_Slot x0 x1 x2 H k := by
  have e : wpC Try.prog T pan Try.f32.ntmps gap_Slot.ann (Try.f32.body.getD .skip) (argFr [(Value.int .i64 x0), (Value.int .i64 x1), (Value.int .i64 x2)]) H (bodyK T Try.f32.results.toList fun e H' => out1 (.int .i64) e noPan (fun r0 => k r0 H')) = gap_Slot.b x0 x1 x2 H k := by kernel_rfl
  have h1 : LCalls Try.prog 32 [(Value.int .i64 x0), (Value.int .i64 x1), (Value.int .i64 x2)] H (fun e H' => out1 (.int .i64) e noPan (fun r0 => k r0 H')) := lcalls_of hT hm Try.func32 (by kernel_rfl) gap_Slot.ann (Nat.le_of_ble_eq_true (by kernel_rfl)) (e.mpr h)
  exact h1.mono fun _ _ hq => out1_in (fun h => by cases h) hq

def turn_Turn_Put.j1 (x0 : Option Addr) (x1 : Int) (k : Int → AH → Prop) (o5 : Nat) (Hj : AH) : Prop :=
  onPtr x0 fun a40 => elP (AH.cell? Hj (Addr.add a40 1)) fun p42 => onPtr x0 fun a44 => elI .i64 (AH.cell? Hj (Addr.add a44 2)) fun n46 => ldA Hj ⟨o5, 0, none⟩ 8 fun c51 => turn_Turn_Moves x0 Hj fun n48 H48 => AH.row? H48 ⟨o5, 0, none⟩ 8 = some c51 ∧ AH.cell? H48 (Addr.add a44 2) = some (Value.int .i64 n46) ∧ AH.cell? H48 (Addr.add a40 1) = some (Value.pointer p42) ∧ gap_Slot n46 n48 x1 H48 fun n50 H50 => AH.row? H50 ⟨o5, 0, none⟩ 8 = some c51 ∧ AH.cell? H50 (Addr.add a40 1) = some (Value.pointer p42) ∧ lines_Lines_Put p42 n50 c51 H50 fun n52 H52 => k n52 H52
def turn_Turn_Put.b (x0 : Option Addr) (x1 : Int) (x2 : List Value) (H : AH) (k : Int → AH → Prop) : Prop :=
  newC H ⟨x2, .rw, 0⟩ fun o5 H5 => turn_Turn_may x0 x1 H5 fun n11 H11 => bcase ((n11 : Int) != (0 : Int)) (k n11 H11) (onPtr x0 fun a16 => elI .i64 (AH.cell? H11 (Addr.add a16 4)) fun n18 => onPtr x0 fun a20 => stC H11 (Addr.add a20 4) [(Value.int .i64 (IntKind.wrap .i64 (n18 + (1 : Int))))] fun Hs2 => onPtr x0 fun a23 => elI .i64 (AH.cell? Hs2 (Addr.add a23 4)) fun n25 => onPtr x0 fun a27 => elI .i64 (AH.cell? Hs2 (Addr.add a27 3)) fun n29 => bcase ((n25 : Int) == n29) (onPtr x0 fun a32 => stC Hs2 (Addr.add a32 4) [(Value.int .i64 (0 : Int))] fun Hs4 => turn_Turn_move x0 Hs4 fun n35 H35 => bcase ((n35 : Int) != (0 : Int)) (k n35 H35) (turn_Turn_Put.j1 x0 x1 k o5 H35)) (turn_Turn_Put.j1 x0 x1 k o5 Hs2))
def turn_Turn_Put.ann : Ann := { keep := fun r => match r with  | _ => [], ord := fun r => match r with | 5 => [0, 1, 2, 3, 4, 5, 6, 7, 8] | 10 => [0, 1, 2, 3, 4, 5, 6, 7, 8, 10, 12, 9, 11, 13, 14] | _ => [] }
theorem turn_Turn_Put.link {x0 : Option Addr} {x1 : Int} {x2 : List Value} {H : AH} {k : Int → AH → Prop} (h : turn_Turn_Put.b x0 x1 x2 H k) : turn_Turn_Put x0 x1 x2 H k := by
  have e : wpC Try.prog T pan Try.f21.ntmps turn_Turn_Put.ann (Try.f21.body.getD .skip) (argFr [(Value.pointer x0), (Value.int .i64 x1), (Value.agg (List.toArray x2))]) H (bodyK T Try.f21.results.toList fun e H' => out1 (.int .i64) e noPan (fun r0 => k r0 H')) = turn_Turn_Put.b x0 x1 x2 H k := by kernel_rfl
  have h1 : LCalls Try.prog 21 [(Value.pointer x0), (Value.int .i64 x1), (Value.agg (List.toArray x2))] H (fun e H' => out1 (.int .i64) e noPan (fun r0 => k r0 H')) := lcalls_of hT hm Try.func21 (by kernel_rfl) turn_Turn_Put.ann (Nat.le_of_ble_eq_true (by kernel_rfl)) (e.mpr h)
  exact h1.mono fun _ _ hq => out1_in (fun h => by cases h) hq

def log_Log_finish.j1 (x0 : Option Addr) (k : Int → AH → Prop) (HL2 : AH) : Prop :=
  onPtr x0 fun a31 => elP (AH.cell? HL2 (Addr.add a31 0)) fun p33 => nvm_Memory_Set p33 (1 : Int) (0 : Int) HL2 fun n34 H34 => k n34 H34
def log_Log_finish.l2 (x0 : Option Addr) (x1 : Sl) (k : Int → AH → Prop) (t2 : Int × Int) (HL2 : AH) (it2 : (Int × Int) → AH → Prop) : Prop :=
  bcase (decide ((t2.2 : Int) < ((x1.n : Nat) : Int))) ((0 ≤ t2.2 ∧ t2.2 < ((x1.n : Nat) : Int)) ∧ onPtr x1.a fun a12 => ldA HL2 (Addr.add a12 (Int.toNat t2.2 * 9)) 9 fun c13 => newC HL2 ⟨[(Value.int .i64 (0 : Int)), (Value.int .u64 (0 : Int)), (Value.int .u64 (0 : Int)), (Value.int .u64 (0 : Int)), (Value.int .u64 (0 : Int)), (Value.int .u64 (0 : Int)), (Value.int .u64 (0 : Int)), (Value.int .u64 (0 : Int)), (Value.int .u64 (0 : Int))], .rw, 0⟩ fun o6 H6 => (List.length c13 = 9 ∧ List.all c13 cellOK = true) ∧ stC H6 ⟨o6, 0, none⟩ c13 fun Hs2 => onPtr x0 fun a15 => elP (AH.cell? Hs2 (Addr.add a15 1)) fun p17 => elI .i64 (AH.cell? Hs2 (Addr.add ⟨o6, 0, none⟩ 0)) fun n19 => ldA Hs2 (Addr.add ⟨o6, 0, none⟩ 1) 8 fun c21 => turn_Turn_Put p17 n19 c21 Hs2 fun n22 H22 => bcase ((n22 : Int) == (0 : Int)) (it2 (t2.1, (IntKind.wrap .i64 (t2.2 + (1 : Int)))) H22) (bcase ((n22 : Int) == (3 : Int)) (k (0 : Int) H22) (k n22 H22))) (log_Log_finish.j1 x0 k HL2)
def log_Log_finish.b (x0 : Option Addr) (x1 : Sl) (H : AH) (k : Int → AH → Prop) : Prop :=
  loopT (log_Log_finish.l2 x0 x1 k) (((0 : Int), (0 : Int)) : Int × Int) H
def log_Log_finish.ann : Ann := { keep := fun r => match r with | 2 => [(4, .int .i64), (10, .int .i64)] | _ => [], ord := fun r => match r with | 4 => [0, 1, 2, 3, 4, 5, 6, 7, 8, 9] | _ => [] }
theorem log_Log_finish.link {x0 : Option Addr} {x1 : Sl} {H : AH} {k : Int → AH → Prop} (h : log_Log_finish.b x0 x1 H k) : log_Log_finish x0 x1 H k := by
  have e : wpC Try.prog T pan Try.f23.ntmps log_Log_finish.ann (Try.f23.body.getD .skip) (argFr [(Value.pointer x0), (Sl.val x1)]) H (bodyK T Try.f23.results.toList fun e H' => out1 (.int .i64) e noPan (fun r0 => k r0 H')) = log_Log_finish.b x0 x1 H k := by kernel_rfl
  have h1 : LCalls Try.prog 23 [(Value.pointer x0), (Sl.val x1)] H (fun e H' => out1 (.int .i64) e noPan (fun r0 => k r0 H')) := lcalls_of hT hm Try.func23 (by kernel_rfl) log_Log_finish.ann (Nat.le_of_ble_eq_true (by kernel_rfl)) (e.mpr h)
  exact h1.mono fun _ _ hq => out1_in (fun h => by cases h) hq

def log_Log_Commit.j1 (x0 : Option Addr) (x1 : Sl) (k : Int → AH → Prop) (HL15 : AH) : Prop :=
  onPtr x0 fun a80 => elP (AH.cell? HL15 (Addr.add a80 0)) fun p82 => nvm_Memory_Set p82 (1 : Int) (IntKind.wrap .u64 ((x1.n : Nat) : Int)) HL15 fun n86 H86 => bcase ((n86 : Int) != (0 : Int)) (k n86 H86) (log_Log_finish x0 x1 H86 fun n92 H92 => k n92 H92)
def log_Log_Commit.l2 (x0 : Option Addr) (x1 : Sl) (k : Int → AH → Prop) (t9 : Sl × Int) (t15 : Int × Int) (HL15 : AH) (it15 : (Int × Int) → AH → Prop) : Prop :=
  bcase (decide ((t15.2 : Int) < ((t9.1.n : Nat) : Int))) ((0 ≤ t15.2 ∧ t15.2 < ((t9.1.n : Nat) : Int)) ∧ onPtr t9.1.a fun a66 => ldA HL15 (Addr.add a66 (Int.toNat t15.2 * 8)) 8 fun c67 => newC HL15 ⟨[(Value.int .u64 (0 : Int)), (Value.int .u64 (0 : Int)), (Value.int .u64 (0 : Int)), (Value.int .u64 (0 : Int)), (Value.int .u64 (0 : Int)), (Value.int .u64 (0 : Int)), (Value.int .u64 (0 : Int)), (Value.int .u64 (0 : Int))], .rw, 0⟩ fun o9 H9 => (List.length c67 = 8 ∧ List.all c67 cellOK = true) ∧ stC H9 ⟨o9, 0, none⟩ c67 fun Hs6 => onPtr x0 fun a69 => elP (AH.cell? Hs6 (Addr.add a69 1)) fun p71 => ldA Hs6 ⟨o9, 0, none⟩ 8 fun c73 => turn_Turn_Put p71 t15.2 c73 Hs6 fun n74 H74 => bcase ((n74 : Int) != (0 : Int)) (k n74 H74) (it15 (t15.1, (IntKind.wrap .i64 (t15.2 + (1 : Int)))) H74)) (log_Log_Commit.j1 x0 x1 k HL15)
def log_Log_Commit.l3 (x0 : Option Addr) (x1 : Sl) (k : Int → AH → Prop) (t9 : Sl × Int) (HL9 : AH) (it9 : (Sl × Int) → AH → Prop) : Prop :=
  bcase (decide ((t9.2 : Int) < ((x1.n : Nat) : Int))) ((0 ≤ t9.2 ∧ t9.2 < ((x1.n : Nat) : Int)) ∧ onPtr x1.a fun a43 => ldA HL9 (Addr.add a43 (Int.toNat t9.2 * 9)) 9 fun c44 => newC HL9 ⟨[(Value.int .i64 (0 : Int)), (Value.int .u64 (0 : Int)), (Value.int .u64 (0 : Int)), (Value.int .u64 (0 : Int)), (Value.int .u64 (0 : Int)), (Value.int .u64 (0 : Int)), (Value.int .u64 (0 : Int)), (Value.int .u64 (0 : Int)), (Value.int .u64 (0 : Int))], .rw, 0⟩ fun o7 H7 => (List.length c44 = 9 ∧ List.all c44 cellOK = true) ∧ stC H7 ⟨o7, 0, none⟩ c44 fun Hs2 => ((8 : Int) : Int) ≠ 0 ∧ ((8 : Int) : Int) ≠ 0 ∧ elI .i64 (AH.cell? Hs2 (Addr.add ⟨o7, 0, none⟩ 0)) fun n51 => (0 ≤ (IntKind.wrap .i64 (Int.tdiv t9.2 (8 : Int))) ∧ (IntKind.wrap .i64 (Int.tdiv t9.2 (8 : Int))) < ((t9.1.n : Nat) : Int)) ∧ onPtr t9.1.a fun a53 => (0 ≤ (Int.tmod t9.2 (8 : Int)) ∧ (Int.tmod t9.2 (8 : Int)) < ((8 : Nat) : Int)) ∧ stC Hs2 (Addr.add (Addr.add a53 (Int.toNat (IntKind.wrap .i64 (Int.tdiv t9.2 (8 : Int))) * 8)) (Int.toNat (Int.tmod t9.2 (8 : Int)) * 1)) [(Value.int .u64 (IntKind.wrap .u64 n51))] fun Hs4 => ldA Hs4 (Addr.add ⟨o7, 0, none⟩ 1) 8 fun c57 => (List.length c57 = 8) ∧ newC Hs4 ⟨(setMany [(Value.int .u64 (0 : Int)), (Value.int .u64 (0 : Int)), (Value.int .u64 (0 : Int)), (Value.int .u64 (0 : Int)), (Value.int .u64 (0 : Int)), (Value.int .u64 (0 : Int)), (Value.int .u64 (0 : Int)), (Value.int .u64 (0 : Int))] 0 c57), .rw, 8⟩ fun o58 H58 => appendC 8 H58 t9.1 ⟨(some ⟨o58, 0, none⟩), 1, 1⟩ fun s59 H59 => it9 (s59, (IntKind.wrap .i64 (t9.2 + (1 : Int)))) H59) (loopT (log_Log_Commit.l2 x0 x1 k t9) (((0 : Int), (0 : Int)) : Int × Int) HL9)
def log_Log_Commit.j4 (x0 : Option Addr) (x1 : Sl) (k : Int → AH → Prop) (x12 : Bool) (Hj : AH) : Prop :=
  bcase x12 (k (1 : Int) Hj) (onPtr x0 fun a27 => elP (AH.cell? Hj (Addr.add a27 0)) fun p29 => nvm_Memory_Down p29 Hj fun b30 H30 => bcase b30 (k (2 : Int) H30) (log_Log_Pending x0 H30 fun b33 H33 => bcase b33 (k (5 : Int) H33) (log_index ((x1.n : Nat) : Int) H33 fun n36 H36 => (0 ≤ n36 ∧ n36 ≤ (16 : Int) ∧ (16 : Int) ≤ (lim : Int)) ∧ newC H36 ⟨zerosOf (Int.toNat n36) [(Value.int .u64 (0 : Int)), (Value.int .u64 (0 : Int)), (Value.int .u64 (0 : Int)), (Value.int .u64 (0 : Int)), (Value.int .u64 (0 : Int)), (Value.int .u64 (0 : Int)), (Value.int .u64 (0 : Int)), (Value.int .u64 (0 : Int))], .rw, 8⟩ fun o37 H37 => loopT (log_Log_Commit.l3 x0 x1 k) ((⟨(some ⟨o37, 0, none⟩), (Int.toNat n36), 1⟩, (0 : Int)) : Sl × Int) H37)))
def log_Log_Commit.b (x0 : Option Addr) (x1 : Sl) (H : AH) (k : Int → AH → Prop) : Prop :=
  bcase (Option.isNone x0) (log_Log_Commit.j4 x0 x1 k true H) (onPtr x0 fun a17 => elP (AH.cell? H (Addr.add a17 1)) fun p19 => turn_Turn_Lines p19 H fun n20 H20 => log_May n20 x1 H20 fun b22 H22 => log_Log_Commit.j4 x0 x1 k (!b22) H22)
def log_Log_Commit.ann : Ann := { keep := fun r => match r with | 9 => [(5, .sl), (40, .int .i64)] | 15 => [(4, .int .i64), (63, .int .i64)] | _ => [], ord := fun r => match r with | 11 => [0, 1, 2, 3, 4, 5, 6, 7, 8, 9, 10] | 17 => [0, 1, 2, 3, 4, 5, 6, 7] | _ => [] }
theorem log_Log_Commit.link {x0 : Option Addr} {x1 : Sl} {H : AH} {k : Int → AH → Prop} (h : log_Log_Commit.b x0 x1 H k) : log_Log_Commit x0 x1 H k := by
  have e : wpC Try.prog T pan Try.f8.ntmps log_Log_Commit.ann (Try.f8.body.getD .skip) (argFr [(Value.pointer x0), (Sl.val x1)]) H (bodyK T Try.f8.results.toList fun e H' => out1 (.int .i64) e noPan (fun r0 => k r0 H')) = log_Log_Commit.b x0 x1 H k := by kernel_rfl
  have h1 : LCalls Try.prog 8 [(Value.pointer x0), (Sl.val x1)] H (fun e H' => out1 (.int .i64) e noPan (fun r0 => k r0 H')) := lcalls_of hT hm Try.func8 (by kernel_rfl) log_Log_Commit.ann (Nat.le_of_ble_eq_true (by kernel_rfl)) (e.mpr h)
  exact h1.mono fun _ _ hq => out1_in (fun h => by cases h) hq

def turn_Turn_Get.b (x0 : Option Addr) (x1 : Int) (H : AH) (k : List Value → Int → AH → Prop) : Prop :=
  newC H ⟨[(Value.int .u64 (0 : Int)), (Value.int .u64 (0 : Int)), (Value.int .u64 (0 : Int)), (Value.int .u64 (0 : Int)), (Value.int .u64 (0 : Int)), (Value.int .u64 (0 : Int)), (Value.int .u64 (0 : Int)), (Value.int .u64 (0 : Int))], .rw, 0⟩ fun o4 H4 => turn_Turn_may x0 x1 H4 fun n9 H9 => bcase ((n9 : Int) != (0 : Int)) ((List.length [(Value.int .u64 (0 : Int)), (Value.int .u64 (0 : Int)), (Value.int .u64 (0 : Int)), (Value.int .u64 (0 : Int)), (Value.int .u64 (0 : Int)), (Value.int .u64 (0 : Int)), (Value.int .u64 (0 : Int)), (Value.int .u64 (0 : Int))] = 8 ∧ List.all [(Value.int .u64 (0 : Int)), (Value.int .u64 (0 : Int)), (Value.int .u64 (0 : Int)), (Value.int .u64 (0 : Int)), (Value.int .u64 (0 : Int)), (Value.int .u64 (0 : Int)), (Value.int .u64 (0 : Int)), (Value.int .u64 (0 : Int))] cellOK = true) ∧ stC H9 ⟨o4, 0, none⟩ [(Value.int .u64 (0 : Int)), (Value.int .u64 (0 : Int)), (Value.int .u64 (0 : Int)), (Value.int .u64 (0 : Int)), (Value.int .u64 (0 : Int)), (Value.int .u64 (0 : Int)), (Value.int .u64 (0 : Int)), (Value.int .u64 (0 : Int))] fun Hs2 => ldA Hs2 ⟨o4, 0, none⟩ 8 fun r0 => k r0 n9 Hs2) (onPtr x0 fun a15 => elP (AH.cell? H9 (Addr.add a15 1)) fun p17 => onPtr x0 fun a19 => elI .i64 (AH.cell? H9 (Addr.add a19 2)) fun n21 => turn_Turn_Moves x0 H9 fun n23 H23 => AH.cell? H23 (Addr.add a19 2) = some (Value.int .i64 n21) ∧ AH.cell? H23 (Addr.add a15 1) = some (Value.pointer p17) ∧ gap_Slot n21 n23 x1 H23 fun n25 H25 => AH.cell? H25 (Addr.add a15 1) = some (Value.pointer p17) ∧ lines_Lines_Get p17 n25 H25 fun c26a n26b H26 => (List.length c26a = 8 ∧ List.all c26a cellOK = true) ∧ stC H26 ⟨o4, 0, none⟩ c26a fun Hs4 => ldA Hs4 ⟨o4, 0, none⟩ 8 fun r0 => k r0 n26b Hs4)
def turn_Turn_Get.ann : Ann := { keep := fun r => match r with  | _ => [], ord := fun r => match r with | 4 => [0, 1, 2, 3, 4, 5, 6, 7, 8, 10, 9, 11, 12, 13, 14, 15, 16] | _ => [] }
theorem turn_Turn_Get.link {x0 : Option Addr} {x1 : Int} {H : AH} {k : List Value → Int → AH → Prop} (h : turn_Turn_Get.b x0 x1 H k) : turn_Turn_Get x0 x1 H k := by
  have e : wpC Try.prog T pan Try.f28.ntmps turn_Turn_Get.ann (Try.f28.body.getD .skip) (argFr [(Value.pointer x0), (Value.int .i64 x1)]) H (bodyK T Try.f28.results.toList fun e H' => out2 .agg (.int .i64) e noPan (fun r0 r1 => k r0 r1 H')) = turn_Turn_Get.b x0 x1 H k := by kernel_rfl
  have h1 : LCalls Try.prog 28 [(Value.pointer x0), (Value.int .i64 x1)] H (fun e H' => out2 .agg (.int .i64) e noPan (fun r0 r1 => k r0 r1 H')) := lcalls_of hT hm Try.func28 (by kernel_rfl) turn_Turn_Get.ann (Nat.le_of_ble_eq_true (by kernel_rfl)) (e.mpr h)
  exact h1.mono fun _ _ hq => out2_in (fun h => by cases h) (fun h => by cases h) hq

def log_Log_homes.j1 (t8 : Sl × Int × Sl × Int) (it8 : (Sl × Int × Sl × Int) → AH → Prop) (o10 : Nat) (H71 : AH) (x11 : Int) : Prop :=
  ldA H71 ⟨o10, 0, none⟩ 8 fun c78 => (List.length c78 = 8) ∧ (List.length (setMany [(Value.int .i64 x11), (Value.int .u64 (0 : Int)), (Value.int .u64 (0 : Int)), (Value.int .u64 (0 : Int)), (Value.int .u64 (0 : Int)), (Value.int .u64 (0 : Int)), (Value.int .u64 (0 : Int)), (Value.int .u64 (0 : Int)), (Value.int .u64 (0 : Int))] 1 c78) = 9) ∧ newC H71 ⟨(setMany [(Value.int .i64 (0 : Int)), (Value.int .u64 (0 : Int)), (Value.int .u64 (0 : Int)), (Value.int .u64 (0 : Int)), (Value.int .u64 (0 : Int)), (Value.int .u64 (0 : Int)), (Value.int .u64 (0 : Int)), (Value.int .u64 (0 : Int)), (Value.int .u64 (0 : Int))] 0 (setMany [(Value.int .i64 x11), (Value.int .u64 (0 : Int)), (Value.int .u64 (0 : Int)), (Value.int .u64 (0 : Int)), (Value.int .u64 (0 : Int)), (Value.int .u64 (0 : Int)), (Value.int .u64 (0 : Int)), (Value.int .u64 (0 : Int)), (Value.int .u64 (0 : Int))] 1 c78)), .rw, 9⟩ fun o80 H80 => appendC 9 H80 t8.2.2.1 ⟨(some ⟨o80, 0, none⟩), 1, 1⟩ fun s81 H81 => it8 (t8.1, t8.2.1, s81, (IntKind.wrap .i64 (t8.2.2.2 + (1 : Int)))) H81
def log_Log_homes.l2 (x0 : Option Addr) (k : Sl → Int → AH → Prop) (n18a : Int) (t8 : Sl × Int × Sl × Int) (HL8 : AH) (it8 : (Sl × Int × Sl × Int) → AH → Prop) : Prop :=
  bcase (decide ((t8.2.2.2 : Int) < (IntKind.wrap .i64 n18a))) (onPtr x0 fun a35 => elP (AH.cell? HL8 (Addr.add a35 1)) fun p37 => ((8 : Int) : Int) ≠ 0 ∧ turn_Turn_Get p37 (IntKind.wrap .i64 (Int.tdiv t8.2.2.2 (8 : Int))) HL8 fun c40a n40b H40 => newC H40 ⟨[(Value.int .u64 (0 : Int)), (Value.int .u64 (0 : Int)), (Value.int .u64 (0 : Int)), (Value.int .u64 (0 : Int)), (Value.int .u64 (0 : Int)), (Value.int .u64 (0 : Int)), (Value.int .u64 (0 : Int)), (Value.int .u64 (0 : Int))], .rw, 0⟩ fun o8 H8 => (List.length c40a = 8 ∧ List.all c40a cellOK = true) ∧ stC H8 ⟨o8, 0, none⟩ c40a fun Hs2 => bcase ((n40b : Int) != (0 : Int)) (k ⟨none, 0, 0⟩ n40b Hs2) (onPtr x0 fun a48 => elP (AH.cell? Hs2 (Addr.add a48 1)) fun p50 => newC Hs2 ⟨[(Value.int .u64 (0 : Int)), (Value.int .u64 (0 : Int)), (Value.int .u64 (0 : Int)), (Value.int .u64 (0 : Int)), (Value.int .u64 (0 : Int)), (Value.int .u64 (0 : Int)), (Value.int .u64 (0 : Int)), (Value.int .u64 (0 : Int))], .rw, 0⟩ fun o10 H10 => log_index (IntKind.wrap .i64 n18a) H10 fun n53 H53 => AH.cell? H53 (Addr.add a48 1) = some (Value.pointer p50) ∧ turn_Turn_Get p50 (IntKind.wrap .i64 (n53 + t8.2.2.2)) H53 fun c56a n56b H56 => (List.length c56a = 8 ∧ List.all c56a cellOK = true) ∧ stC H56 ⟨o10, 0, none⟩ c56a fun Hs4 => bcase ((n56b : Int) != (0 : Int)) (k ⟨none, 0, 0⟩ n56b Hs4) (((8 : Int) : Int) ≠ 0 ∧ (0 ≤ (Int.tmod t8.2.2.2 (8 : Int)) ∧ (Int.tmod t8.2.2.2 (8 : Int)) < ((8 : Nat) : Int)) ∧ elI .u64 (AH.cell? Hs4 (Addr.add ⟨o8, 0, none⟩ (Int.toNat (Int.tmod t8.2.2.2 (8 : Int)) * 1))) fun n65 => onPtr x0 fun a68 => elP (AH.cell? Hs4 (Addr.add a68 1)) fun p70 => turn_Turn_Lines p70 Hs4 fun n71 H71 => bcase (decide ((n65 : Int) < (IntKind.wrap .u64 n71))) (log_Log_homes.j1 t8 it8 o10 H71 (IntKind.wrap .i64 n65)) (log_Log_homes.j1 t8 it8 o10 H71 (-1 : Int))))) (k t8.2.2.1 (0 : Int) HL8)
def log_Log_homes.b (x0 : Option Addr) (H : AH) (k : Sl → Int → AH → Prop) : Prop :=
  onPtr x0 fun a15 => elP (AH.cell? H (Addr.add a15 0)) fun p17 => nvm_Memory_Reg p17 (1 : Int) H fun n18a n18b H18 => bcase ((n18b : Int) != (0 : Int)) (k ⟨none, 0, 0⟩ n18b H18) (bcase (decide ((n18a : Int) > (14 : Int))) (k ⟨none, 0, 0⟩ (6 : Int) H18) (loopT (log_Log_homes.l2 x0 k n18a) ((⟨none, 0, 0⟩, (0 : Int), ⟨none, 0, 0⟩, (0 : Int)) : Sl × Int × Sl × Int) H18))
def log_Log_homes.ann : Ann := { keep := fun r => match r with | 8 => [(2, .sl), (3, .int .i64), (6, .sl), (30, .int .i64)] | _ => [], ord := fun r => match r with | 13 => [0, 1, 2, 3, 4, 5, 7, 13, 6, 8, 9, 10, 11, 12, 14, 15] | _ => [] }
theorem log_Log_homes.link {x0 : Option Addr} {H : AH} {k : Sl → Int → AH → Prop} (h : log_Log_homes.b x0 H k) : log_Log_homes x0 H k := by
  have e : wpC Try.prog T pan Try.f27.ntmps log_Log_homes.ann (Try.f27.body.getD .skip) (argFr [(Value.pointer x0)]) H (bodyK T Try.f27.results.toList fun e H' => out2 .sl (.int .i64) e noPan (fun r0 r1 => k r0 r1 H')) = log_Log_homes.b x0 H k := by kernel_rfl
  have h1 : LCalls Try.prog 27 [(Value.pointer x0)] H (fun e H' => out2 .sl (.int .i64) e noPan (fun r0 r1 => k r0 r1 H')) := lcalls_of hT hm Try.func27 (by kernel_rfl) log_Log_homes.ann (Nat.le_of_ble_eq_true (by kernel_rfl)) (e.mpr h)
  exact h1.mono fun _ _ hq => out2_in (fun h => by cases h) (fun h => by cases h) hq

def log_Log_Get.j1 (x0 : Option Addr) (x1 : Int) (k : List Value → Int → AH → Prop) (o4 : Nat) (x5 : Int) (Hj : AH) : Prop :=
  onPtr x0 fun a56 => elP (AH.cell? Hj (Addr.add a56 1)) fun p58 => turn_Turn_Get p58 x1 Hj fun c60a n60b H60 => (List.length c60a = 8 ∧ List.all c60a cellOK = true) ∧ stC H60 ⟨o4, 0, none⟩ c60a fun Hs6 => ldA Hs6 ⟨o4, 0, none⟩ 8 fun r0 => k r0 n60b Hs6
def log_Log_Get.l2 (x0 : Option Addr) (x1 : Int) (k : List Value → Int → AH → Prop) (o4 : Nat) (s28a : Sl) (t8 : Int × Int) (HL8 : AH) (it8 : (Int × Int) → AH → Prop) : Prop :=
  bcase (decide ((t8.2 : Int) < ((s28a.n : Nat) : Int))) ((0 ≤ t8.2 ∧ t8.2 < ((s28a.n : Nat) : Int)) ∧ onPtr s28a.a fun a46 => ldA HL8 (Addr.add a46 (Int.toNat t8.2 * 9)) 9 fun c47 => newC HL8 ⟨[(Value.int .i64 (0 : Int)), (Value.int .u64 (0 : Int)), (Value.int .u64 (0 : Int)), (Value.int .u64 (0 : Int)), (Value.int .u64 (0 : Int)), (Value.int .u64 (0 : Int)), (Value.int .u64 (0 : Int)), (Value.int .u64 (0 : Int)), (Value.int .u64 (0 : Int))], .rw, 0⟩ fun o9 H9 => (List.length c47 = 9 ∧ List.all c47 cellOK = true) ∧ stC H9 ⟨o9, 0, none⟩ c47 fun Hs8 => elI .i64 (AH.cell? Hs8 (Addr.add ⟨o9, 0, none⟩ 0)) fun n49 => bcase ((n49 : Int) == x1) (ldA Hs8 (Addr.add ⟨o9, 0, none⟩ 1) 8 fun c53 => (List.length c53 = 8 ∧ List.all c53 cellOK = true) ∧ stC Hs8 ⟨o4, 0, none⟩ c53 fun Hs10 => ldA Hs10 ⟨o4, 0, none⟩ 8 fun r0 => k r0 (0 : Int) Hs10) (it8 (t8.1, (IntKind.wrap .i64 (t8.2 + (1 : Int)))) Hs8)) (log_Log_Get.j1 x0 x1 k o4 t8.1 HL8)
def log_Log_Get.j3 (x0 : Option Addr) (x1 : Int) (k : List Value → Int → AH → Prop) (o4 : Nat) (x24 : Bool) (Hj : AH) : Prop :=
  bcase x24 ((List.length [(Value.int .u64 (0 : Int)), (Value.int .u64 (0 : Int)), (Value.int .u64 (0 : Int)), (Value.int .u64 (0 : Int)), (Value.int .u64 (0 : Int)), (Value.int .u64 (0 : Int)), (Value.int .u64 (0 : Int)), (Value.int .u64 (0 : Int))] = 8 ∧ List.all [(Value.int .u64 (0 : Int)), (Value.int .u64 (0 : Int)), (Value.int .u64 (0 : Int)), (Value.int .u64 (0 : Int)), (Value.int .u64 (0 : Int)), (Value.int .u64 (0 : Int)), (Value.int .u64 (0 : Int)), (Value.int .u64 (0 : Int))] cellOK = true) ∧ stC Hj ⟨o4, 0, none⟩ [(Value.int .u64 (0 : Int)), (Value.int .u64 (0 : Int)), (Value.int .u64 (0 : Int)), (Value.int .u64 (0 : Int)), (Value.int .u64 (0 : Int)), (Value.int .u64 (0 : Int)), (Value.int .u64 (0 : Int)), (Value.int .u64 (0 : Int))] fun Hs2 => ldA Hs2 ⟨o4, 0, none⟩ 8 fun r0 => k r0 (1 : Int) Hs2) (log_Log_homes x0 Hj fun s28a n28b H28 => bcase ((n28b : Int) == (2 : Int)) ((List.length [(Value.int .u64 (0 : Int)), (Value.int .u64 (0 : Int)), (Value.int .u64 (0 : Int)), (Value.int .u64 (0 : Int)), (Value.int .u64 (0 : Int)), (Value.int .u64 (0 : Int)), (Value.int .u64 (0 : Int)), (Value.int .u64 (0 : Int))] = 8 ∧ List.all [(Value.int .u64 (0 : Int)), (Value.int .u64 (0 : Int)), (Value.int .u64 (0 : Int)), (Value.int .u64 (0 : Int)), (Value.int .u64 (0 : Int)), (Value.int .u64 (0 : Int)), (Value.int .u64 (0 : Int)), (Value.int .u64 (0 : Int))] cellOK = true) ∧ stC H28 ⟨o4, 0, none⟩ [(Value.int .u64 (0 : Int)), (Value.int .u64 (0 : Int)), (Value.int .u64 (0 : Int)), (Value.int .u64 (0 : Int)), (Value.int .u64 (0 : Int)), (Value.int .u64 (0 : Int)), (Value.int .u64 (0 : Int)), (Value.int .u64 (0 : Int))] fun Hs4 => ldA Hs4 ⟨o4, 0, none⟩ 8 fun r0 => k r0 n28b Hs4) (onPtr x0 fun a36 => elP (AH.cell? H28 (Addr.add a36 1)) fun p38 => turn_Turn_Lines p38 H28 fun n39 H39 => log_May n39 s28a H39 fun b41 H41 => bcase b41 (loopT (log_Log_Get.l2 x0 x1 k o4 s28a) (((0 : Int), (0 : Int)) : Int × Int) H41) (log_Log_Get.j1 x0 x1 k o4 (0 : Int) H41)))
def log_Log_Get.b (x0 : Option Addr) (x1 : Int) (H : AH) (k : List Value → Int → AH → Prop) : Prop :=
  newC H ⟨[(Value.int .u64 (0 : Int)), (Value.int .u64 (0 : Int)), (Value.int .u64 (0 : Int)), (Value.int .u64 (0 : Int)), (Value.int .u64 (0 : Int)), (Value.int .u64 (0 : Int)), (Value.int .u64 (0 : Int)), (Value.int .u64 (0 : Int))], .rw, 0⟩ fun o4 H4 => bcase (Option.isNone x0) (log_Log_Get.j3 x0 x1 k o4 true H4) (bcase (decide ((x1 : Int) < (16 : Int))) (log_Log_Get.j3 x0 x1 k o4 true H4) (onPtr x0 fun a19 => elP (AH.cell? H4 (Addr.add a19 1)) fun p21 => turn_Turn_Lines p21 H4 fun n22 H22 => log_Log_Get.j3 x0 x1 k o4 (decide ((x1 : Int) ≥ n22)) H22))
def log_Log_Get.ann : Ann := { keep := fun r => match r with | 8 => [(5, .int .i64), (44, .int .i64)] | _ => [], ord := fun r => match r with  | _ => [] }
theorem log_Log_Get.link {x0 : Option Addr} {x1 : Int} {H : AH} {k : List Value → Int → AH → Prop} (h : log_Log_Get.b x0 x1 H k) : log_Log_Get x0 x1 H k := by
  have e : wpC Try.prog T pan Try.f15.ntmps log_Log_Get.ann (Try.f15.body.getD .skip) (argFr [(Value.pointer x0), (Value.int .i64 x1)]) H (bodyK T Try.f15.results.toList fun e H' => out2 .agg (.int .i64) e noPan (fun r0 r1 => k r0 r1 H')) = log_Log_Get.b x0 x1 H k := by kernel_rfl
  have h1 : LCalls Try.prog 15 [(Value.pointer x0), (Value.int .i64 x1)] H (fun e H' => out2 .agg (.int .i64) e noPan (fun r0 r1 => k r0 r1 H')) := lcalls_of hT hm Try.func15 (by kernel_rfl) log_Log_Get.ann (Nat.le_of_ble_eq_true (by kernel_rfl)) (e.mpr h)
  exact h1.mono fun _ _ hq => out2_in (fun h => by cases h) (fun h => by cases h) hq

def darninglaw12_awake.b (H : AH) (k : Bool → AH → Prop) : Prop :=
  darninglaw12_made (4 : Int) (0 : Int) (1 : Int) ⟨none, 0, 0⟩ H fun p9a p9b H9 => bcase (Option.isNone p9a) (k false H9) ((List.length [(Value.int .u64 (1 : Int)), (Value.int .u64 (0 : Int)), (Value.int .u64 (0 : Int)), (Value.int .u64 (0 : Int)), (Value.int .u64 (0 : Int)), (Value.int .u64 (0 : Int)), (Value.int .u64 (0 : Int)), (Value.int .u64 (0 : Int))] = 8) ∧ (List.length [(Value.int .u64 (2 : Int)), (Value.int .u64 (0 : Int)), (Value.int .u64 (0 : Int)), (Value.int .u64 (0 : Int)), (Value.int .u64 (0 : Int)), (Value.int .u64 (0 : Int)), (Value.int .u64 (0 : Int)), (Value.int .u64 (0 : Int))] = 8) ∧ (List.length [(Value.int .i64 (16 : Int)), (Value.int .u64 (1 : Int)), (Value.int .u64 (0 : Int)), (Value.int .u64 (0 : Int)), (Value.int .u64 (0 : Int)), (Value.int .u64 (0 : Int)), (Value.int .u64 (0 : Int)), (Value.int .u64 (0 : Int)), (Value.int .u64 (0 : Int))] = 9) ∧ (List.length [(Value.int .i64 (18 : Int)), (Value.int .u64 (2 : Int)), (Value.int .u64 (0 : Int)), (Value.int .u64 (0 : Int)), (Value.int .u64 (0 : Int)), (Value.int .u64 (0 : Int)), (Value.int .u64 (0 : Int)), (Value.int .u64 (0 : Int)), (Value.int .u64 (0 : Int))] = 9) ∧ newC H9 ⟨[(Value.int .i64 (16 : Int)), (Value.int .u64 (1 : Int)), (Value.int .u64 (0 : Int)), (Value.int .u64 (0 : Int)), (Value.int .u64 (0 : Int)), (Value.int .u64 (0 : Int)), (Value.int .u64 (0 : Int)), (Value.int .u64 (0 : Int)), (Value.int .u64 (0 : Int)), (Value.int .i64 (18 : Int)), (Value.int .u64 (2 : Int)), (Value.int .u64 (0 : Int)), (Value.int .u64 (0 : Int)), (Value.int .u64 (0 : Int)), (Value.int .u64 (0 : Int)), (Value.int .u64 (0 : Int)), (Value.int .u64 (0 : Int)), (Value.int .u64 (0 : Int))], .rw, 9⟩ fun o19 H19 => log_Log_Commit p9a ⟨(some ⟨o19, 0, none⟩), 2, 1⟩ H19 fun n20 H20 => log_Log_Get p9a (16 : Int) H20 fun c23a n23b H23 => newC H23 ⟨[(Value.int .u64 (0 : Int)), (Value.int .u64 (0 : Int)), (Value.int .u64 (0 : Int)), (Value.int .u64 (0 : Int)), (Value.int .u64 (0 : Int)), (Value.int .u64 (0 : Int)), (Value.int .u64 (0 : Int)), (Value.int .u64 (0 : Int))], .rw, 0⟩ fun o4 H4 => (List.length c23a = 8 ∧ List.all c23a cellOK = true) ∧ stC H4 ⟨o4, 0, none⟩ c23a fun Hs2 => log_Log_Get p9a (18 : Int) Hs2 fun c28a n28b H28 => newC H28 ⟨[(Value.int .u64 (0 : Int)), (Value.int .u64 (0 : Int)), (Value.int .u64 (0 : Int)), (Value.int .u64 (0 : Int)), (Value.int .u64 (0 : Int)), (Value.int .u64 (0 : Int)), (Value.int .u64 (0 : Int)), (Value.int .u64 (0 : Int))], .rw, 0⟩ fun o6 H6 => (List.length c28a = 8 ∧ List.all c28a cellOK = true) ∧ stC H6 ⟨o6, 0, none⟩ c28a fun Hs4 => bcase ((n20 : Int) == (0 : Int)) (bcase ((n23b : Int) == (0 : Int)) (bcase ((n28b : Int) == (0 : Int)) (ldA Hs4 ⟨o4, 0, none⟩ 8 fun c42 => elO (eqCells (List.replicate 8 (K.int .u64)) c42 [(Value.int .u64 (1 : Int)), (Value.int .u64 (0 : Int)), (Value.int .u64 (0 : Int)), (Value.int .u64 (0 : Int)), (Value.int .u64 (0 : Int)), (Value.int .u64 (0 : Int)), (Value.int .u64 (0 : Int)), (Value.int .u64 (0 : Int))]) fun e44 => bcase e44 (ldA Hs4 ⟨o6, 0, none⟩ 8 fun c47 => elO (eqCells (List.replicate 8 (K.int .u64)) c47 [(Value.int .u64 (2 : Int)), (Value.int .u64 (0 : Int)), (Value.int .u64 (0 : Int)), (Value.int .u64 (0 : Int)), (Value.int .u64 (0 : Int)), (Value.int .u64 (0 : Int)), (Value.int .u64 (0 : Int)), (Value.int .u64 (0 : Int))]) fun e49 => bcase e49 (log_Log_Pending p9a Hs4 fun b53 H53 => bcase (!b53) ((List.length [(Value.int .i64 (19 : Int)), (Value.int .u64 (0 : Int)), (Value.int .u64 (0 : Int)), (Value.int .u64 (0 : Int)), (Value.int .u64 (0 : Int)), (Value.int .u64 (0 : Int)), (Value.int .u64 (0 : Int)), (Value.int .u64 (0 : Int)), (Value.int .u64 (0 : Int))] = 9) ∧ newC H53 ⟨[(Value.int .i64 (19 : Int)), (Value.int .u64 (0 : Int)), (Value.int .u64 (0 : Int)), (Value.int .u64 (0 : Int)), (Value.int .u64 (0 : Int)), (Value.int .u64 (0 : Int)), (Value.int .u64 (0 : Int)), (Value.int .u64 (0 : Int)), (Value.int .u64 (0 : Int))], .rw, 9⟩ fun o58 H58 => log_May (20 : Int) ⟨(some ⟨o58, 0, none⟩), 1, 1⟩ H58 fun b59 H59 => k b59 H59) (k false H53)) (k false Hs4)) (k false Hs4)) (k false Hs4)) (k false Hs4)) (k false Hs4))
def darninglaw12_awake.ann : Ann := { keep := fun r => match r with  | _ => [], ord := fun r => match r with  | _ => [] }
theorem darninglaw12_awake.link {_u : Unit} {H : AH} {k : Bool → AH → Prop} (h : darninglaw12_awake.b  H k) : darninglaw12_awake  H k := by
  have e : wpC Try.prog T pan Try.f5.ntmps darninglaw12_awake.ann (Try.f5.body.getD .skip) (argFr []) H (bodyK T Try.f5.results.toList fun e H' => out1 .bool e noPan (fun r0 => k r0 H')) = darninglaw12_awake.b  H k := by kernel_rfl
  have h1 : LCalls Try.prog 5 [] H (fun e H' => out1 .bool e noPan (fun r0 => k r0 H')) := lcalls_of hT hm Try.func5 (by kernel_rfl) darninglaw12_awake.ann (Nat.le_of_ble_eq_true (by kernel_rfl)) (e.mpr h)
  exact h1.mono fun _ _ hq => out1_in (fun h => by cases h) hq

def darninglaw12_sized.b (x0 : Int) (x1 : Int) (x2 : Int) (H : AH) (k : Int → Int → Int → AH → Prop) : Prop :=
  ((20 : Int) : Int) ≠ 0 ∧ ((17 : Int) : Int) ≠ 0 ∧ ((20 : Int) : Int) ≠ 0 ∧ k (IntKind.wrap .i64 ((1 : Int) + (IntKind.wrap .i64 (Int.tmod (IntKind.wrap .u64 x0) (20 : Int))))) (IntKind.wrap .i64 (Int.tmod (IntKind.wrap .u64 x1) (17 : Int))) (IntKind.wrap .i64 ((1 : Int) + (IntKind.wrap .i64 (Int.tmod (IntKind.wrap .u64 x2) (20 : Int))))) H
def darninglaw12_sized.ann : Ann := { keep := fun r => match r with  | _ => [], ord := fun r => match r with  | _ => [] }
theorem darninglaw12_sized.link {x0 : Int} {x1 : Int} {x2 : Int} {H : AH} {k : Int → Int → Int → AH → Prop} (h : darninglaw12_sized.b x0 x1 x2 H k) : darninglaw12_sized x0 x1 x2 H k := by
  have e : wpC Try.prog T pan Try.f6.ntmps darninglaw12_sized.ann (Try.f6.body.getD .skip) (argFr [(Value.int .i64 x0), (Value.int .i64 x1), (Value.int .i64 x2)]) H (bodyK T Try.f6.results.toList fun e H' => out3 (.int .i64) (.int .i64) (.int .i64) e noPan (fun r0 r1 r2 => k r0 r1 r2 H')) = darninglaw12_sized.b x0 x1 x2 H k := by kernel_rfl
  have h1 : LCalls Try.prog 6 [(Value.int .i64 x0), (Value.int .i64 x1), (Value.int .i64 x2)] H (fun e H' => out3 (.int .i64) (.int .i64) (.int .i64) e noPan (fun r0 r1 r2 => k r0 r1 r2 H')) := lcalls_of hT hm Try.func6 (by kernel_rfl) darninglaw12_sized.ann (Nat.le_of_ble_eq_true (by kernel_rfl)) (e.mpr h)
  exact h1.mono fun _ _ hq => out3_in (fun h => by cases h) (fun h => by cases h) (fun h => by cases h) hq

def darningref4_MayHomes.l1 (x1 : Sl) (k : Bool → AH → Prop) (t4 : Bool × Int) (it4 : (Bool × Int) → AH → Prop) (o6 : Nat) (t9 : Bool × Int) (HL9 : AH) (it9 : (Bool × Int) → AH → Prop) : Prop :=
  bcase (decide ((t9.2 : Int) < (((Int.toNat t4.2) : Nat) : Int))) ((0 ≤ t9.2 ∧ t9.2 < (((Int.toNat t4.2) : Nat) : Int)) ∧ onPtr x1.a fun a43 => ldA HL9 (Addr.add a43 (Int.toNat t9.2 * 9)) 9 fun c44 => newC HL9 ⟨[(Value.int .i64 (0 : Int)), (Value.int .u64 (0 : Int)), (Value.int .u64 (0 : Int)), (Value.int .u64 (0 : Int)), (Value.int .u64 (0 : Int)), (Value.int .u64 (0 : Int)), (Value.int .u64 (0 : Int)), (Value.int .u64 (0 : Int)), (Value.int .u64 (0 : Int))], .rw, 0⟩ fun o8 H8 => (List.length c44 = 9 ∧ List.all c44 cellOK = true) ∧ stC H8 ⟨o8, 0, none⟩ c44 fun Hs4 => elI .i64 (AH.cell? Hs4 (Addr.add ⟨o6, 0, none⟩ 0)) fun n46 => elI .i64 (AH.cell? Hs4 (Addr.add ⟨o8, 0, none⟩ 0)) fun n48 => bcase ((n46 : Int) == n48) (k false Hs4) (it9 (t9.1, (IntKind.wrap .i64 (t9.2 + (1 : Int)))) Hs4)) (it4 (t9.1, (IntKind.wrap .i64 (t4.2 + (1 : Int)))) HL9)
def darningref4_MayHomes.j2 (x1 : Sl) (k : Bool → AH → Prop) (t4 : Bool × Int) (it4 : (Bool × Int) → AH → Prop) (o6 : Nat) (Hs2 : AH) (x36 : Bool) : Prop :=
  bcase x36 (k false Hs2) ((0 ≤ t4.2 ∧ t4.2 ≤ ((x1.n : Nat) : Int)) ∧ loopT (darningref4_MayHomes.l1 x1 k t4 it4 o6) ((t4.1, (0 : Int)) : Bool × Int) Hs2)
def darningref4_MayHomes.l3 (x0 : Int) (x1 : Sl) (k : Bool → AH → Prop) (t4 : Bool × Int) (HL4 : AH) (it4 : (Bool × Int) → AH → Prop) : Prop :=
  bcase (decide ((t4.2 : Int) < ((x1.n : Nat) : Int))) ((0 ≤ t4.2 ∧ t4.2 < ((x1.n : Nat) : Int)) ∧ onPtr x1.a fun a26 => ldA HL4 (Addr.add a26 (Int.toNat t4.2 * 9)) 9 fun c27 => newC HL4 ⟨[(Value.int .i64 (0 : Int)), (Value.int .u64 (0 : Int)), (Value.int .u64 (0 : Int)), (Value.int .u64 (0 : Int)), (Value.int .u64 (0 : Int)), (Value.int .u64 (0 : Int)), (Value.int .u64 (0 : Int)), (Value.int .u64 (0 : Int)), (Value.int .u64 (0 : Int))], .rw, 0⟩ fun o6 H6 => (List.length c27 = 9 ∧ List.all c27 cellOK = true) ∧ stC H6 ⟨o6, 0, none⟩ c27 fun Hs2 => elI .i64 (AH.cell? Hs2 (Addr.add ⟨o6, 0, none⟩ 0)) fun n29 => bcase (decide ((n29 : Int) < (16 : Int))) (darningref4_MayHomes.j2 x1 k t4 it4 o6 Hs2 true) (elI .i64 (AH.cell? Hs2 (Addr.add ⟨o6, 0, none⟩ 0)) fun n33 => darningref4_MayHomes.j2 x1 k t4 it4 o6 Hs2 (decide ((n33 : Int) ≥ x0)))) (k true HL4)
def darningref4_MayHomes.j4 (x0 : Int) (x1 : Sl) (H : AH) (k : Bool → AH → Prop) (x20 : Bool) : Prop :=
  bcase x20 (k false H) (loopT (darningref4_MayHomes.l3 x0 x1 k) ((false, (0 : Int)) : Bool × Int) H)
def darningref4_MayHomes.b (x0 : Int) (x1 : Sl) (H : AH) (k : Bool → AH → Prop) : Prop :=
  bcase (decide ((x0 : Int) < (16 : Int))) (darningref4_MayHomes.j4 x0 x1 H k true) (bcase (decide ((((x1.n : Nat) : Int) : Int) < (1 : Int))) (darningref4_MayHomes.j4 x0 x1 H k true) (darningref4_MayHomes.j4 x0 x1 H k (decide ((((x1.n : Nat) : Int) : Int) > (14 : Int)))))
def darningref4_MayHomes.ann : Ann := { keep := fun r => match r with | 4 => [(4, .bool), (23, .int .i64)] | 9 => [(4, .bool), (41, .int .i64)] | _ => [], ord := fun r => match r with  | _ => [] }
theorem darningref4_MayHomes.link {x0 : Int} {x1 : Sl} {H : AH} {k : Bool → AH → Prop} (h : darningref4_MayHomes.b x0 x1 H k) : darningref4_MayHomes x0 x1 H k := by
  have e : wpC Try.prog T pan Try.f9.ntmps darningref4_MayHomes.ann (Try.f9.body.getD .skip) (argFr [(Value.int .i64 x0), (Sl.val x1)]) H (bodyK T Try.f9.results.toList fun e H' => out1 .bool e noPan (fun r0 => k r0 H')) = darningref4_MayHomes.b x0 x1 H k := by kernel_rfl
  have h1 : LCalls Try.prog 9 [(Value.int .i64 x0), (Sl.val x1)] H (fun e H' => out1 .bool e noPan (fun r0 => k r0 H')) := lcalls_of hT hm Try.func9 (by kernel_rfl) darningref4_MayHomes.ann (Nat.le_of_ble_eq_true (by kernel_rfl)) (e.mpr h)
  exact h1.mono fun _ _ hq => out1_in (fun h => by cases h) hq

def nvm_Memory_Cut.b (x0 : Option Addr) (x1 : Int) (x2 : Int) (H : AH) (k : AH → Prop) : Prop :=
  bcase (!(Option.isNone x0)) (onPtr x0 fun a13 => stC H (Addr.add a13 37) [(Value.int .i64 (if (-1 : Int) > x1 then (-1 : Int) else x1))] fun Hs2 => onPtr x0 fun a15 => stC Hs2 (Addr.add a15 38) [(Value.int .i64 x2)] fun Hs4 => k Hs4) (k H)
def nvm_Memory_Cut.ann : Ann := { keep := fun r => match r with  | _ => [], ord := fun r => match r with  | _ => [] }
theorem nvm_Memory_Cut.link {x0 : Option Addr} {x1 : Int} {x2 : Int} {H : AH} {k : AH → Prop} (h : nvm_Memory_Cut.b x0 x1 x2 H k) : nvm_Memory_Cut x0 x1 x2 H k := by
  have e : wpC Try.prog T pan Try.f11.ntmps nvm_Memory_Cut.ann (Try.f11.body.getD .skip) (argFr [(Value.pointer x0), (Value.int .i64 x1), (Value.int .i64 x2)]) H (bodyK T Try.f11.results.toList fun e H' => out0  e noPan (k H')) = nvm_Memory_Cut.b x0 x1 x2 H k := by kernel_rfl
  have h1 : LCalls Try.prog 11 [(Value.pointer x0), (Value.int .i64 x1), (Value.int .i64 x2)] H (fun e H' => out0  e noPan (k H')) := lcalls_of hT hm Try.func11 (by kernel_rfl) nvm_Memory_Cut.ann (Nat.le_of_ble_eq_true (by kernel_rfl)) (e.mpr h)
  exact h1.mono fun _ _ hq => out0_in hq

def nvm_Memory_Power.b (x0 : Option Addr) (H : AH) (k : AH → Prop) : Prop :=
  bcase (!(Option.isNone x0)) (onPtr x0 fun a6 => stC H (Addr.add a6 37) [(Value.int .i64 (-1 : Int))] fun Hs2 => onPtr x0 fun a8 => stC Hs2 (Addr.add a8 39) [(Value.bool false)] fun Hs4 => k Hs4) (k H)
def nvm_Memory_Power.ann : Ann := { keep := fun r => match r with  | _ => [], ord := fun r => match r with  | _ => [] }
theorem nvm_Memory_Power.link {x0 : Option Addr} {H : AH} {k : AH → Prop} (h : nvm_Memory_Power.b x0 H k) : nvm_Memory_Power x0 H k := by
  have e : wpC Try.prog T pan Try.f12.ntmps nvm_Memory_Power.ann (Try.f12.body.getD .skip) (argFr [(Value.pointer x0)]) H (bodyK T Try.f12.results.toList fun e H' => out0  e noPan (k H')) = nvm_Memory_Power.b x0 H k := by kernel_rfl
  have h1 : LCalls Try.prog 12 [(Value.pointer x0)] H (fun e H' => out0  e noPan (k H')) := lcalls_of hT hm Try.func12 (by kernel_rfl) nvm_Memory_Power.ann (Nat.le_of_ble_eq_true (by kernel_rfl)) (e.mpr h)
  exact h1.mono fun _ _ hq => out0_in hq

def log_Log_Recover.b (x0 : Option Addr) (H : AH) (k : Int → AH → Prop) : Prop :=
  bcase (Option.isNone x0) (k (1 : Int) H) (log_Log_homes x0 H fun s9a n9b H9 => bcase ((n9b : Int) != (0 : Int)) (k n9b H9) (bcase ((((s9a.n : Nat) : Int) : Int) == (0 : Int)) (k (0 : Int) H9) (onPtr x0 fun a22 => elP (AH.cell? H9 (Addr.add a22 1)) fun p24 => turn_Turn_Lines p24 H9 fun n25 H25 => log_May n25 s9a H25 fun b27 H27 => bcase (!b27) (k (6 : Int) H27) (log_Log_finish x0 s9a H27 fun n31 H31 => k n31 H31))))
def log_Log_Recover.ann : Ann := { keep := fun r => match r with  | _ => [], ord := fun r => match r with  | _ => [] }
theorem log_Log_Recover.link {x0 : Option Addr} {H : AH} {k : Int → AH → Prop} (h : log_Log_Recover.b x0 H k) : log_Log_Recover x0 H k := by
  have e : wpC Try.prog T pan Try.f14.ntmps log_Log_Recover.ann (Try.f14.body.getD .skip) (argFr [(Value.pointer x0)]) H (bodyK T Try.f14.results.toList fun e H' => out1 (.int .i64) e noPan (fun r0 => k r0 H')) = log_Log_Recover.b x0 H k := by kernel_rfl
  have h1 : LCalls Try.prog 14 [(Value.pointer x0)] H (fun e H' => out1 (.int .i64) e noPan (fun r0 => k r0 H')) := lcalls_of hT hm Try.func14 (by kernel_rfl) log_Log_Recover.ann (Nat.le_of_ble_eq_true (by kernel_rfl)) (e.mpr h)
  exact h1.mono fun _ _ hq => out1_in (fun h => by cases h) hq

def darninglaw12_LogWhole.j1 (k : Bool → AH → Prop) (HL55 : AH) : Prop :=
  darninglaw12_awake  HL55 fun b273 H273 => k b273 H273
def darninglaw12_LogWhole.j2 (k : Bool → AH → Prop) (Hs2 : AH) (t55 : Bool × Int) (it55 : (Bool × Int) → AH → Prop) (x271 : Bool) : Prop :=
  bcase x271 (k false Hs2) (it55 (t55.1, (IntKind.wrap .i64 (t55.2 + (1 : Int)))) Hs2)
def darninglaw12_LogWhole.l3 (k : Bool → AH → Prop) (n60a : Int) (o75 : Nat) (s103 : Sl) (p171 : Option Addr) (t43 : Bool × Bool × Bool × Int) (t55 : Bool × Int) (HL55 : AH) (it55 : (Bool × Int) → AH → Prop) : Prop :=
  bcase (decide ((t55.2 : Int) < n60a)) (log_Log_Get p171 (IntKind.wrap .i64 ((16 : Int) + t55.2)) HL55 fun c248a n248b H248 => newC H248 ⟨[(Value.int .u64 (0 : Int)), (Value.int .u64 (0 : Int)), (Value.int .u64 (0 : Int)), (Value.int .u64 (0 : Int)), (Value.int .u64 (0 : Int)), (Value.int .u64 (0 : Int)), (Value.int .u64 (0 : Int)), (Value.int .u64 (0 : Int))], .rw, 0⟩ fun o41 H41 => (List.length c248a = 8 ∧ List.all c248a cellOK = true) ∧ stC H41 ⟨o41, 0, none⟩ c248a fun Hs2 => bcase t43.2.2.1 (ldA Hs2 ⟨o41, 0, none⟩ 8 fun c253 => (0 ≤ t55.2 ∧ t55.2 < ((s103.n : Nat) : Int)) ∧ onPtr s103.a fun a256 => ldA Hs2 (Addr.add a256 (Int.toNat t55.2 * 8)) 8 fun c257 => elO (eqCells (List.replicate 8 (K.int .u64)) c253 c257) fun e258 => bcase (!e258) (darninglaw12_LogWhole.j2 k Hs2 t55 it55 true) (bcase (!t43.2.2.1) (ldA Hs2 ⟨o41, 0, none⟩ 8 fun c264 => (0 ≤ t55.2 ∧ t55.2 < (((Int.toNat n60a) : Nat) : Int)) ∧ ldA Hs2 (Addr.add ⟨o75, 0, none⟩ (Int.toNat t55.2 * 8)) 8 fun c268 => elO (eqCells (List.replicate 8 (K.int .u64)) c264 c268) fun e269 => darninglaw12_LogWhole.j2 k Hs2 t55 it55 (!e269)) (darninglaw12_LogWhole.j2 k Hs2 t55 it55 false))) (bcase (!t43.2.2.1) (ldA Hs2 ⟨o41, 0, none⟩ 8 fun c264 => (0 ≤ t55.2 ∧ t55.2 < (((Int.toNat n60a) : Nat) : Int)) ∧ ldA Hs2 (Addr.add ⟨o75, 0, none⟩ (Int.toNat t55.2 * 8)) 8 fun c268 => elO (eqCells (List.replicate 8 (K.int .u64)) c264 c268) fun e269 => darninglaw12_LogWhole.j2 k Hs2 t55 it55 (!e269)) (darninglaw12_LogWhole.j2 k Hs2 t55 it55 false))) (darninglaw12_LogWhole.j1 k HL55)
def darninglaw12_LogWhole.j4 (k : Bool → AH → Prop) (n60a : Int) (o75 : Nat) (s103 : Sl) (p171 : Option Addr) (t43 : Bool × Bool × Bool × Int) (HL43 : AH) (x236 : Bool) : Prop :=
  bcase x236 (k false HL43) (log_Log_Recover p171 HL43 fun n238 H238 => bcase ((n238 : Int) != (0 : Int)) (k false H238) (loopT (darninglaw12_LogWhole.l3 k n60a o75 s103 p171 t43) ((t43.1, (0 : Int)) : Bool × Int) H238))
def darninglaw12_LogWhole.j5 (k : Bool → AH → Prop) (n60a : Int) (o75 : Nat) (s103 : Sl) (n137 : Int) (p171 : Option Addr) (t43 : Bool × Bool × Bool × Int) (HL43 : AH) : Prop :=
  bcase ((n137 : Int) == (0 : Int)) (bcase (!t43.2.2.1) (darninglaw12_LogWhole.j4 k n60a o75 s103 p171 t43 HL43 true) (bcase ((n137 : Int) != (0 : Int)) (bcase ((n137 : Int) != (2 : Int)) (bcase (!t43.2.1) (darninglaw12_LogWhole.j4 k n60a o75 s103 p171 t43 HL43 true) (bcase (!t43.2.1) (darninglaw12_LogWhole.j4 k n60a o75 s103 p171 t43 HL43 (!t43.2.2.1)) (darninglaw12_LogWhole.j4 k n60a o75 s103 p171 t43 HL43 false))) (bcase (!t43.2.1) (darninglaw12_LogWhole.j4 k n60a o75 s103 p171 t43 HL43 (!t43.2.2.1)) (darninglaw12_LogWhole.j4 k n60a o75 s103 p171 t43 HL43 false))) (bcase (!t43.2.1) (darninglaw12_LogWhole.j4 k n60a o75 s103 p171 t43 HL43 (!t43.2.2.1)) (darninglaw12_LogWhole.j4 k n60a o75 s103 p171 t43 HL43 false)))) (bcase ((n137 : Int) != (0 : Int)) (bcase ((n137 : Int) != (2 : Int)) (bcase (!t43.2.1) (darninglaw12_LogWhole.j4 k n60a o75 s103 p171 t43 HL43 true) (bcase (!t43.2.1) (darninglaw12_LogWhole.j4 k n60a o75 s103 p171 t43 HL43 (!t43.2.2.1)) (darninglaw12_LogWhole.j4 k n60a o75 s103 p171 t43 HL43 false))) (bcase (!t43.2.1) (darninglaw12_LogWhole.j4 k n60a o75 s103 p171 t43 HL43 (!t43.2.2.1)) (darninglaw12_LogWhole.j4 k n60a o75 s103 p171 t43 HL43 false))) (bcase (!t43.2.1) (darninglaw12_LogWhole.j4 k n60a o75 s103 p171 t43 HL43 (!t43.2.2.1)) (darninglaw12_LogWhole.j4 k n60a o75 s103 p171 t43 HL43 false)))
def darninglaw12_LogWhole.l6 (k : Bool → AH → Prop) (n60a : Int) (o75 : Nat) (s103 : Sl) (n137 : Int) (p171 : Option Addr) (t43 : Bool × Bool × Bool × Int) (HL43 : AH) (it43 : (Bool × Bool × Bool × Int) → AH → Prop) : Prop :=
  bcase (decide ((t43.2.2.2 : Int) < n60a)) (log_Log_Get p171 (IntKind.wrap .i64 ((16 : Int) + t43.2.2.2)) HL43 fun c187a n187b H187 => newC H187 ⟨[(Value.int .u64 (0 : Int)), (Value.int .u64 (0 : Int)), (Value.int .u64 (0 : Int)), (Value.int .u64 (0 : Int)), (Value.int .u64 (0 : Int)), (Value.int .u64 (0 : Int)), (Value.int .u64 (0 : Int)), (Value.int .u64 (0 : Int))], .rw, 0⟩ fun o38 H38 => (List.length c187a = 8 ∧ List.all c187a cellOK = true) ∧ stC H38 ⟨o38, 0, none⟩ c187a fun Hs4 => bcase ((n187b : Int) != (0 : Int)) (k false Hs4) (bcase t43.2.1 (ldA Hs4 ⟨o38, 0, none⟩ 8 fun c194 => (0 ≤ t43.2.2.2 ∧ t43.2.2.2 < (((Int.toNat n60a) : Nat) : Int)) ∧ ldA Hs4 (Addr.add ⟨o75, 0, none⟩ (Int.toNat t43.2.2.2 * 8)) 8 fun c198 => elO (eqCells (List.replicate 8 (K.int .u64)) c194 c198) fun e199 => bcase t43.2.2.1 (ldA Hs4 ⟨o38, 0, none⟩ 8 fun c203 => (0 ≤ t43.2.2.2 ∧ t43.2.2.2 < ((s103.n : Nat) : Int)) ∧ onPtr s103.a fun a206 => ldA Hs4 (Addr.add a206 (Int.toNat t43.2.2.2 * 8)) 8 fun c207 => elO (eqCells (List.replicate 8 (K.int .u64)) c203 c207) fun e208 => it43 (t43.1, e199, e208, (IntKind.wrap .i64 (t43.2.2.2 + (1 : Int)))) Hs4) (it43 (t43.1, e199, false, (IntKind.wrap .i64 (t43.2.2.2 + (1 : Int)))) Hs4)) (bcase t43.2.2.1 (ldA Hs4 ⟨o38, 0, none⟩ 8 fun c203 => (0 ≤ t43.2.2.2 ∧ t43.2.2.2 < ((s103.n : Nat) : Int)) ∧ onPtr s103.a fun a206 => ldA Hs4 (Addr.add a206 (Int.toNat t43.2.2.2 * 8)) 8 fun c207 => elO (eqCells (List.replicate 8 (K.int .u64)) c203 c207) fun e208 => it43 (t43.1, false, e208, (IntKind.wrap .i64 (t43.2.2.2 + (1 : Int)))) Hs4) (it43 (t43.1, false, false, (IntKind.wrap .i64 (t43.2.2.2 + (1 : Int)))) Hs4)))) (darninglaw12_LogWhole.j5 k n60a o75 s103 n137 p171 t43 HL43)
def darninglaw12_LogWhole.j7 (k : Bool → AH → Prop) (n60a : Int) (o75 : Nat) (s103 : Sl) (n137 : Int) (p171 : Option Addr) (x178 : Bool) (Hj : AH) : Prop :=
  bcase x178 (k false Hj) (loopT (darninglaw12_LogWhole.l6 k n60a o75 s103 n137 p171) ((false, true, true, (0 : Int)) : Bool × Bool × Bool × Int) Hj)
def darninglaw12_LogWhole.j8 (k : Bool → AH → Prop) (n60a : Int) (n60b : Int) (n60c : Int) (p69b : Option Addr) (o75 : Nat) (s103 : Sl) (n137 : Int) (HL29 : AH) : Prop :=
  nvm_Memory_Power p69b HL29 fun H166 => darninglaw12_over p69b n60a n60b n60c H166 fun p171 H171 => bcase (Option.isNone p171) (darninglaw12_LogWhole.j7 k n60a o75 s103 n137 p171 true H171) (log_Log_Recover p171 H171 fun n176 H176 => darninglaw12_LogWhole.j7 k n60a o75 s103 n137 p171 ((n176 : Int) != (0 : Int)) H176)
def darninglaw12_LogWhole.l9 (x7 : Int) (x8 : Sl) (k : Bool → AH → Prop) (n60a : Int) (n60b : Int) (n60c : Int) (p69b : Option Addr) (o75 : Nat) (s103 : Sl) (n137 : Int) (t29 : Int) (HL29 : AH) (it29 : (Int) → AH → Prop) : Prop :=
  bcase (decide ((t29 : Int) < ((x8.n : Nat) : Int))) ((0 ≤ t29 ∧ t29 < ((x8.n : Nat) : Int)) ∧ onPtr x8.a fun a142 => elI .i64 (AH.cell? HL29 (Addr.add a142 (Int.toNat t29 * 1))) fun n143 => nvm_Memory_Power p69b HL29 fun H145 => ((40 : Int) : Int) ≠ 0 ∧ nvm_Memory_Cut p69b (IntKind.wrap .i64 (Int.tmod (IntKind.wrap .u64 n143) (40 : Int))) (xorI .i64 x7 n143) H145 fun H154 => darninglaw12_over p69b n60a n60b n60c H154 fun p159 H159 => bcase (!(Option.isNone p159)) (log_Log_Recover p159 H159 fun n163 H163 => it29 (IntKind.wrap .i64 (t29 + (1 : Int))) H163) (it29 (IntKind.wrap .i64 (t29 + (1 : Int))) H159)) (darninglaw12_LogWhole.j8 k n60a n60b n60c p69b o75 s103 n137 HL29)
def darninglaw12_LogWhole.j10 (x5 : Sl) (x6 : Int) (x7 : Int) (x8 : Sl) (k : Bool → AH → Prop) (n60a : Int) (n60b : Int) (n60c : Int) (p69a : Option Addr) (p69b : Option Addr) (o75 : Nat) (s103 : Sl) (Hj : AH) : Prop :=
  ((60 : Int) : Int) ≠ 0 ∧ nvm_Memory_Cut p69b (IntKind.wrap .i64 (Int.tmod (IntKind.wrap .u64 x6) (60 : Int))) x7 Hj fun H134 => log_Log_Commit p69a x5 H134 fun n137 H137 => loopT (darninglaw12_LogWhole.l9 x7 x8 k n60a n60b n60c p69b o75 s103 n137) (((0 : Int)) : Int) H137
def darninglaw12_LogWhole.l11 (x5 : Sl) (x6 : Int) (x7 : Int) (x8 : Sl) (k : Bool → AH → Prop) (n60a : Int) (n60b : Int) (n60c : Int) (p69a : Option Addr) (p69b : Option Addr) (o75 : Nat) (s103 : Sl) (t22 : Int) (HL22 : AH) (it22 : (Int) → AH → Prop) : Prop :=
  bcase (decide ((t22 : Int) < ((x5.n : Nat) : Int))) ((0 ≤ t22 ∧ t22 < ((x5.n : Nat) : Int)) ∧ onPtr x5.a fun a118 => ldA HL22 (Addr.add a118 (Int.toNat t22 * 9)) 9 fun c119 => newC HL22 ⟨[(Value.int .i64 (0 : Int)), (Value.int .u64 (0 : Int)), (Value.int .u64 (0 : Int)), (Value.int .u64 (0 : Int)), (Value.int .u64 (0 : Int)), (Value.int .u64 (0 : Int)), (Value.int .u64 (0 : Int)), (Value.int .u64 (0 : Int)), (Value.int .u64 (0 : Int))], .rw, 0⟩ fun o29 H29 => (List.length c119 = 9 ∧ List.all c119 cellOK = true) ∧ stC H29 ⟨o29, 0, none⟩ c119 fun Hs6 => elI .i64 (AH.cell? Hs6 (Addr.add ⟨o29, 0, none⟩ 0)) fun n122 => ldA Hs6 (Addr.add ⟨o29, 0, none⟩ 1) 8 fun c125 => (0 ≤ (IntKind.wrap .i64 (n122 - (16 : Int))) ∧ (IntKind.wrap .i64 (n122 - (16 : Int))) < ((s103.n : Nat) : Int)) ∧ onPtr s103.a fun a126 => (List.length c125 = 8 ∧ List.all c125 cellOK = true) ∧ stC Hs6 (Addr.add a126 (Int.toNat (IntKind.wrap .i64 (n122 - (16 : Int))) * 8)) c125 fun Hs8 => it22 (IntKind.wrap .i64 (t22 + (1 : Int))) Hs8) (darninglaw12_LogWhole.j10 x5 x6 x7 x8 k n60a n60b n60c p69a p69b o75 s103 HL22)
def darninglaw12_LogWhole.j12 (x5 : Sl) (x6 : Int) (x7 : Int) (x8 : Sl) (k : Bool → AH → Prop) (n60a : Int) (n60b : Int) (n60c : Int) (p69a : Option Addr) (p69b : Option Addr) (o75 : Nat) (s103 : Sl) (x27 : Bool) (Hj : AH) : Prop :=
  bcase x27 (loopT (darninglaw12_LogWhole.l11 x5 x6 x7 x8 k n60a n60b n60c p69a p69b o75 s103) (((0 : Int)) : Int) Hj) (darninglaw12_LogWhole.j10 x5 x6 x7 x8 k n60a n60b n60c p69a p69b o75 s103 Hj)
def darninglaw12_LogWhole.j13 (x5 : Sl) (x6 : Int) (x7 : Int) (x8 : Sl) (k : Bool → AH → Prop) (n60a : Int) (n60b : Int) (n60c : Int) (p69a : Option Addr) (p69b : Option Addr) (o75 : Nat) (HL9 : AH) : Prop :=
  newC HL9 ⟨[], .rw, 8⟩ fun o101 H101 => appendC 8 H101 ⟨(some ⟨o101, 0, none⟩), 0, 1⟩ ⟨(some ⟨o75, 0, none⟩), (Int.toNat n60a), 1⟩ fun s103 H103 => darningref4_MayHomes (IntKind.wrap .i64 ((16 : Int) + n60a)) x5 H103 fun b107 H107 => bcase b107 (log_Log_Pending p69a H107 fun b110 H110 => darninglaw12_LogWhole.j12 x5 x6 x7 x8 k n60a n60b n60c p69a p69b o75 s103 (!b110) H110) (darninglaw12_LogWhole.j12 x5 x6 x7 x8 k n60a n60b n60c p69a p69b o75 s103 false H107)
def darninglaw12_LogWhole.l14 (n60a : Int) (o75 : Nat) (t9 : Int) (it9 : (Int) → AH → Prop) (s81 : Sl) (t13 : Int) (HL13 : AH) (it13 : (Int) → AH → Prop) : Prop :=
  bcase (decide ((t13 : Int) < ((s81.n : Nat) : Int))) ((0 ≤ t13 ∧ t13 < ((s81.n : Nat) : Int)) ∧ onPtr s81.a fun a90 => ldA HL13 (Addr.add a90 (Int.toNat t13 * 9)) 9 fun c91 => newC HL13 ⟨[(Value.int .i64 (0 : Int)), (Value.int .u64 (0 : Int)), (Value.int .u64 (0 : Int)), (Value.int .u64 (0 : Int)), (Value.int .u64 (0 : Int)), (Value.int .u64 (0 : Int)), (Value.int .u64 (0 : Int)), (Value.int .u64 (0 : Int)), (Value.int .u64 (0 : Int))], .rw, 0⟩ fun o25 H25 => (List.length c91 = 9 ∧ List.all c91 cellOK = true) ∧ stC H25 ⟨o25, 0, none⟩ c91 fun Hs10 => elI .i64 (AH.cell? Hs10 (Addr.add ⟨o25, 0, none⟩ 0)) fun n94 => ldA Hs10 (Addr.add ⟨o25, 0, none⟩ 1) 8 fun c97 => (0 ≤ (IntKind.wrap .i64 (n94 - (16 : Int))) ∧ (IntKind.wrap .i64 (n94 - (16 : Int))) < (((Int.toNat n60a) : Nat) : Int)) ∧ (List.length c97 = 8 ∧ List.all c97 cellOK = true) ∧ stC Hs10 (Addr.add ⟨o75, 0, none⟩ (Int.toNat (IntKind.wrap .i64 (n94 - (16 : Int))) * 8)) c97 fun Hs12 => it13 (IntKind.wrap .i64 (t13 + (1 : Int))) Hs12) (it9 (IntKind.wrap .i64 (t9 + (1 : Int))) HL13)
def darninglaw12_LogWhole.l15 (x4 : Sl) (x5 : Sl) (x6 : Int) (x7 : Int) (x8 : Sl) (k : Bool → AH → Prop) (n60a : Int) (n60b : Int) (n60c : Int) (p69a : Option Addr) (p69b : Option Addr) (o75 : Nat) (t9 : Int) (HL9 : AH) (it9 : (Int) → AH → Prop) : Prop :=
  bcase (decide ((t9 : Int) < ((x4.n : Nat) : Int))) ((0 ≤ t9 ∧ t9 < ((x4.n : Nat) : Int)) ∧ onPtr x4.a fun a80 => elL (AH.cell? HL9 (Addr.add a80 (Int.toNat t9 * 1))) fun s81 => log_Log_Commit p69a s81 HL9 fun n84 H84 => bcase ((n84 : Int) == (0 : Int)) (loopT (darninglaw12_LogWhole.l14 n60a o75 t9 it9 s81) (((0 : Int)) : Int) H84) (it9 (IntKind.wrap .i64 (t9 + (1 : Int))) H84)) (darninglaw12_LogWhole.j13 x5 x6 x7 x8 k n60a n60b n60c p69a p69b o75 HL9)
def darninglaw12_LogWhole.j16 (x0 : Int) (x1 : Int) (x2 : Int) (x3 : Sl) (x4 : Sl) (x5 : Sl) (x6 : Int) (x7 : Int) (x8 : Sl) (k : Bool → AH → Prop) (H48 : AH) (x54 : Bool) : Prop :=
  bcase x54 (darninglaw12_awake  H48 fun b55 H55 => k b55 H55) (darninglaw12_sized x0 x1 x2 H48 fun n60a n60b n60c H60 => darninglaw12_made n60a n60b n60c x3 H60 fun p69a p69b H69 => bcase (Option.isNone p69a) (k false H69) ((0 ≤ n60a ∧ n60a ≤ n60a ∧ n60a ≤ (lim : Int)) ∧ newC H69 ⟨zerosOf (Int.toNat n60a) [(Value.int .u64 (0 : Int)), (Value.int .u64 (0 : Int)), (Value.int .u64 (0 : Int)), (Value.int .u64 (0 : Int)), (Value.int .u64 (0 : Int)), (Value.int .u64 (0 : Int)), (Value.int .u64 (0 : Int)), (Value.int .u64 (0 : Int))], .rw, 8⟩ fun o75 H75 => loopT (darninglaw12_LogWhole.l15 x4 x5 x6 x7 x8 k n60a n60b n60c p69a p69b o75) (((0 : Int)) : Int) H75))
def darninglaw12_LogWhole.b (x0 : Int) (x1 : Int) (x2 : Int) (x3 : Sl) (x4 : Sl) (x5 : Sl) (x6 : Int) (x7 : Int) (x8 : Sl) (H : AH) (k : Bool → AH → Prop) : Prop :=
  newC H ⟨[(Sl.val x5)], .rw, 1⟩ fun o44 H44 => appendC 1 H44 ⟨(some ⟨o44, 0, none⟩), 1, 1⟩ x4 fun s46 H46 => darninglaw12_heavy s46 x3 H46 fun n48 H48 => bcase (decide ((n48 : Int) > (0 : Int))) (darninglaw12_LogWhole.j16 x0 x1 x2 x3 x4 x5 x6 x7 x8 k H48 true) (darninglaw12_LogWhole.j16 x0 x1 x2 x3 x4 x5 x6 x7 x8 k H48 (decide ((((x8.n : Nat) : Int) : Int) > (6 : Int))))
def darninglaw12_LogWhole.ann : Ann := { keep := fun r => match r with | 9 => [(78, .int .i64)] | 13 => [(88, .int .i64)] | 22 => [(116, .int .i64)] | 29 => [(140, .int .i64)] | 43 => [(18, .bool), (35, .bool), (36, .bool), (180, .int .i64)] | 55 => [(18, .bool), (241, .int .i64)] | _ => [], ord := fun r => match r with | 48 => [0, 1, 2, 3, 4, 5, 6, 7, 8, 9, 10, 11, 12, 13, 14, 15, 16, 17, 18, 19] | 58 => [0, 1, 2, 3, 4, 5, 6, 7, 8, 9, 10, 11, 12, 13, 14, 15, 16, 17, 18, 19, 20] | _ => [] }
theorem darninglaw12_LogWhole.link {x0 : Int} {x1 : Int} {x2 : Int} {x3 : Sl} {x4 : Sl} {x5 : Sl} {x6 : Int} {x7 : Int} {x8 : Sl} {H : AH} {k : Bool → AH → Prop} (h : darninglaw12_LogWhole.b x0 x1 x2 x3 x4 x5 x6 x7 x8 H k) : darninglaw12_LogWhole x0 x1 x2 x3 x4 x5 x6 x7 x8 H k := by
  have e : wpC Try.prog T pan Try.f3.ntmps darninglaw12_LogWhole.ann (Try.f3.body.getD .skip) (argFr [(Value.int .i64 x0), (Value.int .i64 x1), (Value.int .i64 x2), (Sl.val x3), (Sl.val x4), (Sl.val x5), (Value.int .i64 x6), (Value.int .i64 x7), (Sl.val x8)]) H (bodyK T Try.f3.results.toList fun e H' => out1 .bool e noPan (fun r0 => k r0 H')) = darninglaw12_LogWhole.b x0 x1 x2 x3 x4 x5 x6 x7 x8 H k := by kernel_rfl
  have h1 : LCalls Try.prog 3 [(Value.int .i64 x0), (Value.int .i64 x1), (Value.int .i64 x2), (Sl.val x3), (Sl.val x4), (Sl.val x5), (Value.int .i64 x6), (Value.int .i64 x7), (Sl.val x8)] H (fun e H' => out1 .bool e noPan (fun r0 => k r0 H')) := lcalls_of hT hm Try.func3 (by kernel_rfl) darninglaw12_LogWhole.ann (Nat.le_of_ble_eq_true (by kernel_rfl)) (e.mpr h)
  exact h1.mono fun _ _ hq => out1_in (fun h => by cases h) hq

end Go.Proofs.Ytgechnnadjonaab
