/- Lemmas for the law: an abstract machine, and what the functions do on it. No condition. -/
import Derived.Test.YtemeclnpdpkfdaaGreatGT7
import Derived.Test.YtemeclnpdpkfdaaGreatProg
set_option linter.all false
open Go.Value renaming int → qlk, pointer → qls, slice → qlR, bool → qlW, agg → qms
open Go.IntKind renaming wrap → qll, bits → qmn
open Go.Addr renaming add → qlm
open List renaming getElem?_eq_getElem → qln, length → qly, toArray → qlU, length_eq_zero_iff → qlZ, all → ql0, flatMap_cons → ql7, getElem?_take → qmd, getElem?_drop → qme
open Int renaming toNat_natCast → qlp, toNat → qlr, eq_ofNat_of_zero_le → qlI, tdiv_eq_ediv_of_nonneg → qlY, tmod → qmg, tdiv → qmo
open Bool renaming false_eq_true → qlw, not_eq_true' → qmM
open Option renaming isSome_none → qlF, isNone → ql1
open BitVec renaming ofInt → qmc
open Nat renaming lt_of_lt_of_le → qmA
open ByteArray renaming toList → qmJ
namespace Go.Proofs.YtemeclnpdpkfdaaGreat
open Go Go.Abs
set_option linter.unusedVariables false
set_option maxRecDepth 100000
def tyL : List (Nat × TyE) := [
 (3, { k := .int .i64, sub := .none, size := 1, bytes := 8, zero := [(qlk .i64 (0 : Int))], eqs := false }),
 (4, { k := .bool, sub := .none, size := 1, bytes := 1, zero := [(qlW false)], eqs := false }),
 (5, { k := .int .u8, sub := .none, size := 1, bytes := 1, zero := [(qlk .u8 (0 : Int))], eqs := false }),
 (9, { k := .str, sub := .none, size := 1, bytes := 16, zero := [(Value.string ⟨#[]⟩)], eqs := false }),
 (23, { k := .agg, sub := (.fields [(0, 3), (1, 3), (2, 3), (3, 3)]), size := 4, bytes := 32, zero := [(qlk .i64 (0 : Int)), (qlk .i64 (0 : Int)), (qlk .i64 (0 : Int)), (qlk .i64 (0 : Int))], eqs := true }),
 (24, { k := .sl, sub := (.elem 35), size := 1, bytes := 24, zero := [(qlR none 0 0)], eqs := false }),
 (28, { k := .int .u64, sub := .none, size := 1, bytes := 8, zero := [(qlk .u64 (0 : Int))], eqs := false }),
 (29, { k := .ptr, sub := (.elem 90), size := 1, bytes := 8, zero := [(qls none)], eqs := false }),
 (30, { k := .ptr, sub := (.elem 132), size := 1, bytes := 8, zero := [(qls none)], eqs := false }),
 (33, { k := .sl, sub := (.elem 5), size := 1, bytes := 24, zero := [(qlR none 0 0)], eqs := false }),
 (35, { k := .agg, sub := (.fields [(0, 3), (1, 3), (2, 3), (3, 3), (4, 33)]), size := 5, bytes := 56, zero := [(qlk .i64 (0 : Int)), (qlk .i64 (0 : Int)), (qlk .i64 (0 : Int)), (qlk .i64 (0 : Int)), (qlR none 0 0)], eqs := false }),
 (37, { k := .int .i64, sub := .none, size := 1, bytes := 8, zero := [(qlk .i64 (0 : Int))], eqs := false }),
 (39, { k := .agg, sub := (.fields [(0, 37), (1, 3), (2, 33)]), size := 3, bytes := 40, zero := [(qlk .i64 (0 : Int)), (qlk .i64 (0 : Int)), (qlR none 0 0)], eqs := false }),
 (41, { k := .sl, sub := (.elem 28), size := 1, bytes := 24, zero := [(qlR none 0 0)], eqs := false }),
 (47, { k := .sl, sub := (.elem 3), size := 1, bytes := 24, zero := [(qlR none 0 0)], eqs := false }),
 (49, { k := .sl, sub := (.elem 109), size := 1, bytes := 24, zero := [(qlR none 0 0)], eqs := false }),
 (57, { k := .ptr, sub := (.elem 70), size := 1, bytes := 8, zero := [(qls none)], eqs := false }),
 (70, { k := .agg, sub := (.fields [(0, 41), (1, 3)]), size := 2, bytes := 32, zero := [(qlR none 0 0), (qlk .i64 (0 : Int))], eqs := false }),
 (86, { k := .ptr, sub := (.elem 168), size := 1, bytes := 8, zero := [(qls none)], eqs := false }),
 (87, { k := .ptr, sub := (.elem 141), size := 1, bytes := 8, zero := [(qls none)], eqs := false }),
 (88, { k := .ptr, sub := (.elem 150), size := 1, bytes := 8, zero := [(qls none)], eqs := false }),
 (90, { k := .agg, sub := (.fields [(0, 30), (1, 23), (5, 86), (6, 87), (7, 88), (8, 4)]), size := 9, bytes := 72, zero := [(qls none), (qlk .i64 (0 : Int)), (qlk .i64 (0 : Int)), (qlk .i64 (0 : Int)), (qlk .i64 (0 : Int)), (qls none), (qls none), (qls none), (qlW false)], eqs := false }),
 (92, { k := .agg, sub := (.arr 8 28), size := 8, bytes := 64, zero := [(qlk .u64 (0 : Int)), (qlk .u64 (0 : Int)), (qlk .u64 (0 : Int)), (qlk .u64 (0 : Int)), (qlk .u64 (0 : Int)), (qlk .u64 (0 : Int)), (qlk .u64 (0 : Int)), (qlk .u64 (0 : Int))], eqs := true }),
 (96, { k := .sl, sub := (.elem 103), size := 1, bytes := 24, zero := [(qlR none 0 0)], eqs := false }),
 (103, { k := .agg, sub := (.fields [(0, 3), (1, 3), (2, 4)]), size := 3, bytes := 24, zero := [(qlk .i64 (0 : Int)), (qlk .i64 (0 : Int)), (qlW false)], eqs := true }),
 (109, { k := .agg, sub := (.fields [(0, 3), (1, 28)]), size := 2, bytes := 16, zero := [(qlk .i64 (0 : Int)), (qlk .u64 (0 : Int))], eqs := true }),
 (129, { k := .sl, sub := (.elem 134), size := 1, bytes := 24, zero := [(qlR none 0 0)], eqs := false }),
 (130, { k := .agg, sub := (.arr 35 28), size := 35, bytes := 280, zero := [(qlk .u64 (0 : Int)), (qlk .u64 (0 : Int)), (qlk .u64 (0 : Int)), (qlk .u64 (0 : Int)), (qlk .u64 (0 : Int)), (qlk .u64 (0 : Int)), (qlk .u64 (0 : Int)), (qlk .u64 (0 : Int)), (qlk .u64 (0 : Int)), (qlk .u64 (0 : Int)), (qlk .u64 (0 : Int)), (qlk .u64 (0 : Int)), (qlk .u64 (0 : Int)), (qlk .u64 (0 : Int)), (qlk .u64 (0 : Int)), (qlk .u64 (0 : Int)), (qlk .u64 (0 : Int)), (qlk .u64 (0 : Int)), (qlk .u64 (0 : Int)), (qlk .u64 (0 : Int)), (qlk .u64 (0 : Int)), (qlk .u64 (0 : Int)), (qlk .u64 (0 : Int)), (qlk .u64 (0 : Int)), (qlk .u64 (0 : Int)), (qlk .u64 (0 : Int)), (qlk .u64 (0 : Int)), (qlk .u64 (0 : Int)), (qlk .u64 (0 : Int)), (qlk .u64 (0 : Int)), (qlk .u64 (0 : Int)), (qlk .u64 (0 : Int)), (qlk .u64 (0 : Int)), (qlk .u64 (0 : Int)), (qlk .u64 (0 : Int))], eqs := true }),
 (132, { k := .agg, sub := (.fields [(0, 129), (1, 130), (36, 3), (37, 3), (38, 3), (39, 4)]), size := 40, bytes := 336, zero := [(qlR none 0 0), (qlk .u64 (0 : Int)), (qlk .u64 (0 : Int)), (qlk .u64 (0 : Int)), (qlk .u64 (0 : Int)), (qlk .u64 (0 : Int)), (qlk .u64 (0 : Int)), (qlk .u64 (0 : Int)), (qlk .u64 (0 : Int)), (qlk .u64 (0 : Int)), (qlk .u64 (0 : Int)), (qlk .u64 (0 : Int)), (qlk .u64 (0 : Int)), (qlk .u64 (0 : Int)), (qlk .u64 (0 : Int)), (qlk .u64 (0 : Int)), (qlk .u64 (0 : Int)), (qlk .u64 (0 : Int)), (qlk .u64 (0 : Int)), (qlk .u64 (0 : Int)), (qlk .u64 (0 : Int)), (qlk .u64 (0 : Int)), (qlk .u64 (0 : Int)), (qlk .u64 (0 : Int)), (qlk .u64 (0 : Int)), (qlk .u64 (0 : Int)), (qlk .u64 (0 : Int)), (qlk .u64 (0 : Int)), (qlk .u64 (0 : Int)), (qlk .u64 (0 : Int)), (qlk .u64 (0 : Int)), (qlk .u64 (0 : Int)), (qlk .u64 (0 : Int)), (qlk .u64 (0 : Int)), (qlk .u64 (0 : Int)), (qlk .u64 (0 : Int)), (qlk .i64 (0 : Int)), (qlk .i64 (0 : Int)), (qlk .i64 (0 : Int)), (qlW false)], eqs := false }),
 (134, { k := .agg, sub := (.fields [(0, 92), (8, 3), (9, 3)]), size := 10, bytes := 80, zero := [(qlk .u64 (0 : Int)), (qlk .u64 (0 : Int)), (qlk .u64 (0 : Int)), (qlk .u64 (0 : Int)), (qlk .u64 (0 : Int)), (qlk .u64 (0 : Int)), (qlk .u64 (0 : Int)), (qlk .u64 (0 : Int)), (qlk .i64 (0 : Int)), (qlk .i64 (0 : Int))], eqs := false }),
 (141, { k := .agg, sub := (.fields [(0, 30), (1, 86)]), size := 2, bytes := 16, zero := [(qls none), (qls none)], eqs := false }),
 (142, { k := .sl, sub := (.elem 147), size := 1, bytes := 24, zero := [(qlR none 0 0)], eqs := false }),
 (147, { k := .agg, sub := (.fields [(0, 3), (1, 92)]), size := 9, bytes := 72, zero := [(qlk .i64 (0 : Int)), (qlk .u64 (0 : Int)), (qlk .u64 (0 : Int)), (qlk .u64 (0 : Int)), (qlk .u64 (0 : Int)), (qlk .u64 (0 : Int)), (qlk .u64 (0 : Int)), (qlk .u64 (0 : Int)), (qlk .u64 (0 : Int))], eqs := false }),
 (150, { k := .agg, sub := (.fields [(0, 3), (1, 47), (2, 47)]), size := 3, bytes := 56, zero := [(qlk .i64 (0 : Int)), (qlR none 0 0), (qlR none 0 0)], eqs := false }),
 (159, { k := .int .u64, sub := .none, size := 1, bytes := 8, zero := [(qlk .u64 (0 : Int))], eqs := false }),
 (166, { k := .ptr, sub := (.elem 184), size := 1, bytes := 8, zero := [(qls none)], eqs := false }),
 (168, { k := .agg, sub := (.fields [(0, 30), (1, 166), (2, 3), (3, 3), (4, 3)]), size := 5, bytes := 40, zero := [(qls none), (qls none), (qlk .i64 (0 : Int)), (qlk .i64 (0 : Int)), (qlk .i64 (0 : Int))], eqs := false }),
 (180, { k := .any, sub := .none, size := 1, bytes := 8, zero := [Value.nilFunc], eqs := false }),
 (184, { k := .agg, sub := (.fields [(0, 30), (1, 3), (2, 3)]), size := 3, bytes := 24, zero := [(qls none), (qlk .i64 (0 : Int)), (qlk .i64 (0 : Int))], eqs := false }),
 (193, { k := .sl, sub := (.elem 92), size := 1, bytes := 24, zero := [(qlR none 0 0)], eqs := false }),
 (0, { k := .bad, sub := .tup [], size := 0, bytes := 0, zero := [], eqs := false }),
 (31, { k := .bad, sub := .tup [29, 30], size := 0, bytes := 0, zero := [], eqs := false }),
 (42, { k := .bad, sub := .tup [41, 37], size := 0, bytes := 0, zero := [], eqs := false }),
 (50, { k := .bad, sub := .tup [49, 3, 37], size := 0, bytes := 0, zero := [], eqs := false }),
 (52, { k := .bad, sub := .tup [49, 37], size := 0, bytes := 0, zero := [], eqs := false }),
 (60, { k := .bad, sub := .tup [29, 37], size := 0, bytes := 0, zero := [], eqs := false }),
 (93, { k := .bad, sub := .tup [92, 37], size := 0, bytes := 0, zero := [], eqs := false }),
 (97, { k := .bad, sub := .tup [96, 4], size := 0, bytes := 0, zero := [], eqs := false }),
 (104, { k := .bad, sub := .tup [96, 3, 4], size := 0, bytes := 0, zero := [], eqs := false }),
 (111, { k := .bad, sub := .tup [49, 4], size := 0, bytes := 0, zero := [], eqs := false }),
 (116, { k := .bad, sub := .tup [33, 37], size := 0, bytes := 0, zero := [], eqs := false }),
 (121, { k := .bad, sub := .tup [28, 37], size := 0, bytes := 0, zero := [], eqs := false }),
 (143, { k := .bad, sub := .tup [142, 37], size := 0, bytes := 0, zero := [], eqs := false }),
 (151, { k := .bad, sub := .tup [3, 4, 4], size := 0, bytes := 0, zero := [], eqs := false }),
 (164, { k := .bad, sub := .tup [96, 3], size := 0, bytes := 0, zero := [], eqs := false }),
 (170, { k := .bad, sub := .tup [3, 4], size := 0, bytes := 0, zero := [], eqs := false }),
 (172, { k := .bad, sub := .tup [109, 4], size := 0, bytes := 0, zero := [], eqs := false }),
 (175, { k := .bad, sub := .tup [33, 4], size := 0, bytes := 0, zero := [], eqs := false }),
 (181, { k := .bad, sub := .tup [3, 41, 37], size := 0, bytes := 0, zero := [], eqs := false }),
 (185, { k := .bad, sub := .tup [3, 3], size := 0, bytes := 0, zero := [], eqs := false }),
 (194, { k := .bad, sub := .tup [3, 3, 4], size := 0, bytes := 0, zero := [], eqs := false })]
def T : Nat → TyE := tyLook tyL
theorem hT : qaq Tryz.prog T := qjU (by kernel_rfl)
theorem hm : Tryz.prog.follows .mixedOrders = true := by kernel_rfl
def pan (f : Nat) : Bool := ([48, 49, 50, 51, 52, 53, 54, 96, 98, 100, 101] : List Nat).contains f
def log_May (x0 : Int) (x1 : Sl) (H : AH) (k : Bool → AH → Prop) : Prop :=
 qj Tryz.prog 107 [(qlk .i64 x0), (Sl.val x1)] H fun e H' => in1 .bool e qo (fun r0 => k r0 H')
def qu (x0 : Option Addr) (x1 : List Value) (H : AH) (k : List Value → AH → Prop) : Prop :=
 qj Tryz.prog 17 [(qls x0), (qms (qlU x1))] H fun e H' => in1 .agg e qo (fun r0 => k r0 H')
def qcL (x0 : Sl) (H : AH) (k : AH → Prop) : Prop :=
 qj Tryz.prog 166 [(Sl.val x0)] H fun e H' => in0  e qo (k H')
def qco (x0 : Sl) (H : AH) (k : Sl → AH → Prop) : Prop :=
 qj Tryz.prog 167 [(Sl.val x0)] H fun e H' => in1 .sl e qo (fun r0 => k r0 H')
def qw (x0 : Sl) (x1b0 : Option Addr) (x1b1 : Option Addr) (H : AH) (k : Int → AH → Prop) : Prop :=
 qj Tryz.prog 149 [(Sl.val x0), (Value.func (.func 183) #[] #[(qls x1b0), (qls x1b1)])] H fun e H' => in1 (.int .i64) e qo (fun r0 => k r0 H')
def qX (x0 : Sl) (x1b0 : Option Addr) (x1b1 : Option Addr) (H : AH) (k : Bool → AH → Prop) : Prop :=
 qj Tryz.prog 182 [(Sl.val x0), (Value.func (.func 183) #[] #[(qls x1b0), (qls x1b1)])] H fun e H' => in1 .bool e qo (fun r0 => k r0 H')
def qC (x0 : Sl) (x1b0 : Option Addr) (H : AH) (k : Int → AH → Prop) : Prop :=
 qj Tryz.prog 149 [(Sl.val x0), (Value.func (.func 150) #[] #[(qls x1b0)])] H fun e H' => in1 (.int .i64) e qo (fun r0 => k r0 H')
def qA (x0 : Sl) (x1 : Sl) (H : AH) (k : Int → AH → Prop) : Prop :=
 qj Tryz.prog 12 [(Sl.val x0), (Sl.val x1)] H fun e H' => in1 (.int .i64) e qo (fun r0 => k r0 H')
def qbK (x0 : List Value) (H : AH) (k : Bool → AH → Prop) : Prop :=
 qj Tryz.prog 88 [(qms (qlU x0))] H fun e H' => in1 .bool e qo (fun r0 => k r0 H')
def qbV (x0 : List Value) (H : AH) (k : Int → AH → Prop) : Prop :=
 qj Tryz.prog 89 [(qms (qlU x0))] H fun e H' => in1 (.int .i64) e qo (fun r0 => k r0 H')
def qbP (x0 : List Value) (H : AH) (k : Int → AH → Prop) : Prop :=
 qj Tryz.prog 32 [(qms (qlU x0))] H fun e H' => in1 (.int .i64) e qo (fun r0 => k r0 H')
def nvm_New (x0 : Int) (x1 : Sl) (H : AH) (k : Option Addr → AH → Prop) : Prop :=
 qj Tryz.prog 31 [(qlk .i64 x0), (Sl.val x1)] H fun e H' => in1 .ptr e qo (fun r0 => k r0 H')
def qay (x0 : Option Addr) (H : AH) (k : Int → AH → Prop) : Prop :=
 qj Tryz.prog 119 [(qls x0)] H fun e H' => in1 (.int .i64) e qo (fun r0 => k r0 H')
def qaI (x0 : Option Addr) (H : AH) (k : Bool → AH → Prop) : Prop :=
 qj Tryz.prog 120 [(qls x0)] H fun e H' => in1 .bool e qo (fun r0 => k r0 H')
def qb2 (x0 : Option Addr) (x1 : List Value) (H : AH) (k : Int → AH → Prop) : Prop :=
 qj Tryz.prog 72 [(qls x0), (qms (qlU x1))] H fun e H' => in1 (.int .i64) e qo (fun r0 => k r0 H')
def qa6 (x0 : Option Addr) (x1 : Int) (H : AH) (k : Bool → AH → Prop) : Prop :=
 qj Tryz.prog 90 [(qls x0), (qlk .i64 x1)] H fun e H' => in1 .bool e qo (fun r0 => k r0 H')
def qS (x0 : Option Addr) (x1 : Int) (H : AH) (k : Int → Int → AH → Prop) : Prop :=
 qj Tryz.prog 76 [(qls x0), (qlk .i64 x1)] H fun e H' => in2 (.int .u64) (.int .i64) e qo (fun r0 r1 => k r0 r1 H')
def qU (x0 : Option Addr) (H : AH) (k : Sl → Int → AH → Prop) : Prop :=
 qj Tryz.prog 160 [(qls x0)] H fun e H' => in2 .sl (.int .i64) e qo (fun r0 r1 => k r0 r1 H')
def qcn (x0 : Int) (H : AH) (k : Int → AH → Prop) : Prop :=
 qj Tryz.prog 159 [(qlk .i64 x0)] H fun e H' => in1 (.int .u64) e qo (fun r0 => k r0 H')
def qbj (x0 : Sl) (x1 : Int) (H : AH) (k : Bool → AH → Prop) : Prop :=
 qj Tryz.prog 174 [(Sl.val x0), (qlk .i64 x1)] H fun e H' => in1 .bool e qo (fun r0 => k r0 H')
def qbf (x0 : Option Addr) (x1 : Int) (x2 : Int) (H : AH) (k : Option Addr → AH → Prop) : Prop :=
 qj Tryz.prog 147 [(qls x0), (qlk .i64 x1), (qlk .i64 x2)] H fun e H' => in1 .ptr e qo (fun r0 => k r0 H')
def qbv (x0 : Option Addr) (x1 : Int) (x2 : Int) (x3 : Int) (H : AH) (k : Option Addr → AH → Prop) : Prop :=
 qj Tryz.prog 121 [(qls x0), (qlk .i64 x1), (qlk .i64 x2), (qlk .i64 x3)] H fun e H' => in1 .ptr e qo (fun r0 => k r0 H')
def qb7 (x0 : Option Addr) (x1 : List Value) (H : AH) (k : Option Addr → AH → Prop) : Prop :=
 qj Tryz.prog 73 [(qls x0), (qms (qlU x1))] H fun e H' => in1 .ptr e qo (fun r0 => k r0 H')
def qcG (x0 : List Value) (H : AH) (k : Int → AH → Prop) : Prop :=
 qj Tryz.prog 84 [(qms (qlU x0))] H fun e H' => in1 (.int .i64) e qo (fun r0 => k r0 H')
def qbx (x0 : Int) (H : AH) (k : Bool → AH → Prop) : Prop :=
 qj Tryz.prog 126 [(qlk .i64 x0)] H fun e H' => in1 .bool e qo (fun r0 => k r0 H')
def qbF (x0 : Int) (H : AH) (k : Bool → AH → Prop) : Prop :=
 qj Tryz.prog 148 [(qlk .i64 x0)] H fun e H' => in1 .bool e qo (fun r0 => k r0 H')
def qb4 (x0 : Int) (x1 : Bool) (H : AH) (k : Int → AH → Prop) : Prop :=
 qj Tryz.prog 127 [(qlk .i64 x0), (qlW x1)] H fun e H' => in1 (.int .u64) e qo (fun r0 => k r0 H')
def qcs (x0 : Int) (H : AH) (k : Sl → AH → Prop) : Prop :=
 qj Tryz.prog 83 [(qlk .i64 x0)] H fun e H' => in1 .sl e qo (fun r0 => k r0 H')
def qbQ (x0 : List Value) (x1 : Int) (H : AH) (k : Int → AH → Prop) : Prop :=
 qj Tryz.prog 56 [(qms (qlU x0)), (qlk .i64 x1)] H fun e H' => in1 (.int .i64) e qo (fun r0 => k r0 H')
def qbp (x0 : Option Addr) (x1 : Int) (H : AH) (k : Int → AH → Prop) : Prop :=
 qj Tryz.prog 128 [(qls x0), (qlk .i64 x1)] H fun e H' => in1 (.int .i64) e qo (fun r0 => k r0 H')
def qbL (x0 : Option Addr) (H : AH) (k : Int → AH → Prop) : Prop :=
 qj Tryz.prog 82 [(qls x0)] H fun e H' => in1 (.int .i64) e qo (fun r0 => k r0 H')
def gap_may (x0 : Int) (x1 : Int) (H : AH) (k : Bool → AH → Prop) : Prop :=
 qj Tryz.prog 153 [(qlk .i64 x0), (qlk .i64 x1)] H fun e H' => in1 .bool e qo (fun r0 => k r0 H')
def qcI (x0 : Int) (x1 : Int) (H : AH) (k : Int → AH → Prop) : Prop :=
 qj Tryz.prog 154 [(qlk .i64 x0), (qlk .i64 x1)] H fun e H' => in1 (.int .i64) e qo (fun r0 => k r0 H')
def gap_Gap (x0 : Int) (x1 : Int) (H : AH) (k : Int → AH → Prop) : Prop :=
 qj Tryz.prog 155 [(qlk .i64 x0), (qlk .i64 x1)] H fun e H' => in1 (.int .i64) e qo (fun r0 => k r0 H')
def qca (x0 : Int) (x1 : Int) (x2 : Int) (H : AH) (k : Int → AH → Prop) : Prop :=
 qj Tryz.prog 130 [(qlk .i64 x0), (qlk .i64 x1), (qlk .i64 x2)] H fun e H' => in1 (.int .i64) e qo (fun r0 => k r0 H')
def qa3 (x0 : Sl) (x1 : Int) (x2 : Int) (H : AH) (k : Int → AH → Prop) : Prop :=
 qj Tryz.prog 175 [(Sl.val x0), (qlk .i64 x1), (qlk .i64 x2)] H fun e H' => in1 (.int .i64) e qo (fun r0 => k r0 H')
def qaP (x0 : Option Addr) (x1 : Int) (H : AH) (k : Int → Sl → Int → AH → Prop) : Prop :=
 qj Tryz.prog 151 [(qls x0), (qlk .i64 x1)] H fun e H' => in3 (.int .i64) .sl (.int .i64) e qo (fun r0 r1 r2 => k r0 r1 r2 H')
def qby (x0 : Option Addr) (x1 : Int) (H : AH) (k : Bool → AH → Prop) : Prop :=
 qj Tryz.prog 176 [(qls x0), (qlk .i64 x1)] H fun e H' => in1 .bool e qo (fun r0 => k r0 H')
def qbY (x0 : Option Addr) (x1 : Int) (H : AH) (k : List Value → Int → AH → Prop) : Prop :=
 qj Tryz.prog 152 [(qls x0), (qlk .i64 x1)] H fun e H' => in2 .agg (.int .i64) e qo (fun r0 r1 => k r0 r1 H')
def qb5 (x0 : Option Addr) (x1 : Int) (H : AH) (k : List Value → Int → AH → Prop) : Prop :=
 qj Tryz.prog 129 [(qls x0), (qlk .i64 x1)] H fun e H' => in2 .agg (.int .i64) e qo (fun r0 r1 => k r0 r1 H')
def qbo (x0 : Option Addr) (x1 : Int) (H : AH) (k : List Value → Int → AH → Prop) : Prop :=
 qj Tryz.prog 85 [(qls x0), (qlk .i64 x1)] H fun e H' => in2 .agg (.int .i64) e qo (fun r0 r1 => k r0 r1 H')
def qbD (x0 : Sl) (x1 : Int) (H : AH) (k : List Value → AH → Prop) : Prop :=
 qj Tryz.prog 86 [(Sl.val x0), (qlk .i64 x1)] H fun e H' => in1 .agg e qo (fun r0 => k r0 H')
def qcY (x0 : Int) (x1 : Int) (H : AH) (k : Int → Int → AH → Prop) : Prop :=
 qj Tryz.prog 156 [(qlk .i64 x0), (qlk .i64 x1)] H fun e H' => in2 (.int .i64) (.int .i64) e qo (fun r0 r1 => k r0 r1 H')
def qbe (x0 : Option Addr) (H : AH) (k : Int → AH → Prop) : Prop :=
 qj Tryz.prog 91 [(qls x0)] H fun e H' => in1 (.int .i64) e qo (fun r0 => k r0 H')
def qb0 (x0 : List Value) (x1 : List Value) (x2 : Int) (H : AH) (k : List Value → AH → Prop) : Prop :=
 qj Tryz.prog 177 [(qms (qlU x0)), (qms (qlU x1)), (qlk .i64 x2)] H fun e H' => in1 .agg e qo (fun r0 => k r0 H')
def qa4 (x0 : Option Addr) (x1 : Bool) (H : AH) (k : Int → AH → Prop) : Prop :=
 qj Tryz.prog 92 [(qls x0), (qlW x1)] H fun e H' => in1 (.int .i64) e qo (fun r0 => k r0 H')
def qak (x0 : Option Addr) (x1 : Int) (x2 : List Value) (H : AH) (k : Int → AH → Prop) : Prop :=
 qj Tryz.prog 157 [(qls x0), (qlk .i64 x1), (qms (qlU x2))] H fun e H' => in1 (.int .i64) e qo (fun r0 => k r0 H')
def qbR (x0 : Sl) (H : AH) (k : Int → AH → Prop) : Prop :=
 qj Tryz.prog 158 [(Sl.val x0)] H fun e H' => in1 (.int .i64) e qo (fun r0 => k r0 H')
def qN (x0 : Option Addr) (x1 : Int) (x2 : Int) (H : AH) (k : Int → AH → Prop) : Prop :=
 qj Tryz.prog 41 [(qls x0), (qlk .i64 x1), (qlk .u64 x2)] H fun e H' => in1 (.int .i64) e qo (fun r0 => k r0 H')
def qaX (x0 : Option Addr) (x1 : Int) (x2 : List Value) (H : AH) (k : Int → AH → Prop) : Prop :=
 qj Tryz.prog 132 [(qls x0), (qlk .i64 x1), (qms (qlU x2))] H fun e H' => in1 (.int .i64) e qo (fun r0 => k r0 H')
def qbX (x0 : Option Addr) (H : AH) (k : Int → AH → Prop) : Prop :=
 qj Tryz.prog 131 [(qls x0)] H fun e H' => in1 (.int .i64) e qo (fun r0 => k r0 H')
def qa1 (x0 : Option Addr) (x1 : Int) (x2 : List Value) (H : AH) (k : Int → AH → Prop) : Prop :=
 qj Tryz.prog 87 [(qls x0), (qlk .i64 x1), (qms (qlU x2))] H fun e H' => in1 (.int .i64) e qo (fun r0 => k r0 H')
def qW (x0 : Option Addr) (x1 : List Value) (H : AH) (k : Int → AH → Prop) : Prop :=
 qj Tryz.prog 30 [(qls x0), (qms (qlU x1))] H fun e H' => in1 (.int .i64) e qo (fun r0 => k r0 H')
def qbb (x0 : Option Addr) (H : AH) (k : Int → AH → Prop) : Prop :=
 qj Tryz.prog 105 [(qls x0)] H fun e H' => in1 (.int .i64) e qo (fun r0 => k r0 H')
def log_New (x0 : Option Addr) (x1 : Option Addr) (H : AH) (k : Option Addr → AH → Prop) : Prop :=
 qj Tryz.prog 74 [(qls x0), (qls x1)] H fun e H' => in1 .ptr e qo (fun r0 => k r0 H')
def qcz (x0 : Int) (H : AH) (k : Int → AH → Prop) : Prop :=
 qj Tryz.prog 145 [(qlk .i64 x0)] H fun e H' => in1 (.int .i64) e qo (fun r0 => k r0 H')
def qaL (x0 : Option Addr) (H : AH) (k : Sl → Int → AH → Prop) : Prop :=
 qj Tryz.prog 106 [(qls x0)] H fun e H' => in2 .sl (.int .i64) e qo (fun r0 r1 => k r0 r1 H')
def qaR (x0 : Option Addr) (x1 : Sl) (H : AH) (k : Int → AH → Prop) : Prop :=
 qj Tryz.prog 122 [(qls x0), (Sl.val x1)] H fun e H' => in1 (.int .i64) e qo (fun r0 => k r0 H')
def qci (x0 : Option Addr) (H : AH) (k : Int → AH → Prop) : Prop :=
 qj Tryz.prog 75 [(qls x0)] H fun e H' => in1 (.int .i64) e qo (fun r0 => k r0 H')
def qaJ (x0 : Option Addr) (x1 : Int) (H : AH) (k : List Value → Int → AH → Prop) : Prop :=
 qj Tryz.prog 55 [(qls x0), (qlk .i64 x1)] H fun e H' => in2 .agg (.int .i64) e qo (fun r0 r1 => k r0 r1 H')
def qal (x0 : Option Addr) (H : AH) (k : Sl → Int → AH → Prop) : Prop :=
 qj Tryz.prog 18 [(qls x0)] H fun e H' => in2 .sl (.int .i64) e qo (fun r0 r1 => k r0 r1 H')
def qbM (x0 : Int) (H : AH) (k : Int → Bool → Bool → AH → Prop) : Prop :=
 qj Tryz.prog 123 [(qlk .u64 x0)] H fun e H' => in3 (.int .i64) .bool .bool e qo (fun r0 r1 r2 => k r0 r1 r2 H')
def qax (x0 : Sl) (x1 : Int) (H : AH) (k : Bool → AH → Prop) : Prop :=
 qj Tryz.prog 124 [(Sl.val x0), (qlk .i64 x1)] H fun e H' => in1 .bool e qo (fun r0 => k r0 H')
def qab (x0 : Sl) (H : AH) (k : Sl → Bool → AH → Prop) : Prop :=
 qj Tryz.prog 77 [(Sl.val x0)] H fun e H' => in2 .sl .bool e qo (fun r0 r1 => k r0 r1 H')
def qbE (x0 : List Value) (H : AH) (k : Int → AH → Prop) : Prop :=
 qj Tryz.prog 136 [(qms (qlU x0))] H fun e H' => in1 (.int .i64) e qo (fun r0 => k r0 H')
def qbU (x0 : List Value) (x1 : Option Addr) (H : AH) (k : Bool → AH → Prop) : Prop :=
 qj Tryz.prog 150 [(qms (qlU x0)), (qls x1)] H fun e H' => in1 .bool e qo (fun r0 => k r0 H')
def qcm (x0 : Sl) (x1 : Int) (H : AH) (k : Sl → Int → AH → Prop) : Prop :=
 qj Tryz.prog 125 [(Sl.val x0), (qlk .i64 x1)] H fun e H' => in2 .sl (.int .i64) e qo (fun r0 r1 => k r0 r1 H')
def qcB (x0 : Sl) (x1 : Int) (H : AH) (k : Bool → AH → Prop) : Prop :=
 qj Tryz.prog 78 [(Sl.val x0), (qlk .i64 x1)] H fun e H' => in1 .bool e qo (fun r0 => k r0 H')
def qcw (x0 : Int) (H : AH) (k : Int → AH → Prop) : Prop :=
 qj Tryz.prog 95 [(qlk .i64 x0)] H fun e H' => in1 (.int .i64) e qo (fun r0 => k r0 H')
def qcH (x0 : List Value) (H : AH) (k : Int → AH → Prop) : Prop :=
 qj Tryz.prog 45 [(qms (qlU x0))] H fun e H' => in1 (.int .i64) e qo (fun r0 => k r0 H')
def qbr (x0 : Int) (x1 : Sl) (H : AH) (k : Option Addr → AH → Prop) : Prop :=
 qj Tryz.prog 79 [(qlk .i64 x0), (Sl.val x1)] H fun e H' => in1 .ptr e qo (fun r0 => k r0 H')
def qah (x0 : Option Addr) (x1 : List Value) (H : AH) (k : Option Addr → Int → AH → Prop) : Prop :=
 qj Tryz.prog 27 [(qls x0), (qms (qlU x1))] H fun e H' => in2 .ptr (.int .i64) e qo (fun r0 r1 => k r0 r1 H')
def qaZ (x0 : List Value) (x1 : Sl) (H : AH) (k : Option Addr → Option Addr → AH → Prop) : Prop :=
 qj Tryz.prog 15 [(qms (qlU x0)), (Sl.val x1)] H fun e H' => in2 .ptr .ptr e qo (fun r0 r1 => k r0 r1 H')
def qb6 (x0 : Option Addr) (H : AH) (k : Bool → AH → Prop) : Prop :=
 qj Tryz.prog 94 [(qls x0)] H fun e H' => in1 .bool e qo (fun r0 => k r0 H')
def qbw (x0 : Option Addr) (H : AH) (k : Bool → AH → Prop) : Prop :=
 qj Tryz.prog 44 [(qls x0)] H fun e H' => in1 .bool e qo (fun r0 => k r0 H')
def qbc (x0 : Sl) (H : AH) (k : Sl → AH → Prop) : Prop :=
 qj Tryz.prog 108 [(Sl.val x0)] H fun e H' => in1 .sl e qo (fun r0 => k r0 H')
def qb8 (x0 : Option Addr) (H : AH) (k : Sl → AH → Prop) : Prop :=
 qj Tryz.prog 57 [(qls x0)] H fun e H' => in1 .sl e qo (fun r0 => k r0 H')
def qbd (x0 : Option Addr) (H : AH) (k : Sl → AH → Prop) : Prop :=
 qj Tryz.prog 20 [(qls x0)] H fun e H' => in1 .sl e qo (fun r0 => k r0 H')
def qbk  (H : AH) (k : Bool → AH → Prop) : Prop :=
 qj Tryz.prog 13 [] H fun e H' => in1 .bool e qo (fun r0 => k r0 H')
def qbg (x0 : Int) (x1 : Int) (x2 : Int) (x3 : Int) (H : AH) (k : List Value → AH → Prop) : Prop :=
 qj Tryz.prog 14 [(qlk .i64 x0), (qlk .i64 x1), (qlk .i64 x2), (qlk .i64 x3)] H fun e H' => in1 .agg e qo (fun r0 => k r0 H')
def qap (x0 : List Value) (x1 : List Value) (H : AH) (k : Bool → AH → Prop) : Prop :=
 qj Tryz.prog 16 [(qms (qlU x0)), (qms (qlU x1))] H fun e H' => in1 .bool e qo (fun r0 => k r0 H')
def qZ (x0 : Int) (H : AH) (k : Int → AH → Prop) : Prop :=
 qj Tryz.prog 58 [(qlk .i64 x0)] H fun e H' => in1 (.int .i64) e qo (fun r0 => k r0 H')
def qar (x0 : Int) (H : AH) (k : Int → Bool → Bool → AH → Prop) : Prop :=
 qj Tryz.prog 109 [(qlk .u64 x0)] H fun e H' => in3 (.int .i64) .bool .bool e qo (fun r0 r1 r2 => k r0 r1 r2 H')
def qau (x0 : Int) (H : AH) (k : Bool → AH → Prop) : Prop :=
 qj Tryz.prog 68 [(qlk .i64 x0)] H fun e H' => in1 .bool e qo (fun r0 => k r0 H')
def qaU (x0 : Int) (H : AH) (k : Bool → AH → Prop) : Prop :=
 qj Tryz.prog 116 [(qlk .i64 x0)] H fun e H' => in1 .bool e qo (fun r0 => k r0 H')
def qr (x0 : Sl) (x1 : Int) (H : AH) (k : Bool → AH → Prop) : Prop :=
 qj Tryz.prog 110 [(Sl.val x0), (qlk .i64 x1)] H fun e H' => in1 .bool e qo (fun r0 => k r0 H')
def qH (x0 : Sl) (H : AH) (k : Sl → Bool → AH → Prop) : Prop :=
 qj Tryz.prog 59 [(Sl.val x0)] H fun e H' => in2 .sl .bool e qo (fun r0 r1 => k r0 r1 H')
def qx (x0 : Sl) (x1 : Int) (H : AH) (k : Sl → AH → Prop) : Prop :=
 qj Tryz.prog 111 [(Sl.val x0), (qlk .i64 x1)] H fun e H' => in1 .sl e qo (fun r0 => k r0 H')
def qR (x0 : Int) (x1 : Sl) (H : AH) (k : Int → AH → Prop) : Prop :=
 qj Tryz.prog 112 [(qlk .i64 x0), (Sl.val x1)] H fun e H' => in1 (.int .i64) e qo (fun r0 => k r0 H')
def qQ (x0 : Sl) (x1 : Int) (x2 : Sl) (H : AH) (k : Int → AH → Prop) : Prop :=
 qj Tryz.prog 60 [(Sl.val x0), (qlk .i64 x1), (Sl.val x2)] H fun e H' => in1 (.int .i64) e qo (fun r0 => k r0 H')
def qV (x0 : Sl) (H : AH) (k : Int → AH → Prop) : Prop :=
 qj Tryz.prog 115 [(Sl.val x0)] H fun e H' => in1 (.int .i64) e qo (fun r0 => k r0 H')
def qao (x0 : Int) (x1 : Int) (H : AH) (k : Int → AH → Prop) : Prop :=
 qj Tryz.prog 114 [(qlk .i64 x0), (qlk .i64 x1)] H fun e H' => in1 (.int .i64) e qo (fun r0 => k r0 H')
def qK (x0 : Sl) (x1 : Int) (x2 : Int) (H : AH) (k : Sl → Bool → AH → Prop) : Prop :=
 qj Tryz.prog 113 [(Sl.val x0), (qlk .i64 x1), (qlk .i64 x2)] H fun e H' => in2 .sl .bool e qo (fun r0 r1 => k r0 r1 H')
def qaG (x0 : Int) (x1 : Bool) (H : AH) (k : Int → AH → Prop) : Prop :=
 qj Tryz.prog 65 [(qlk .i64 x0), (qlW x1)] H fun e H' => in1 (.int .u64) e qo (fun r0 => k r0 H')
def qI (x0 : Sl) (x1 : Int) (x2 : Int) (H : AH) (k : Sl → AH → Prop) : Prop :=
 qj Tryz.prog 61 [(Sl.val x0), (qlk .i64 x1), (qlk .i64 x2)] H fun e H' => in1 .sl e qo (fun r0 => k r0 H')
def qY (x0 : List Value) (H : AH) (k : Int → AH → Prop) : Prop :=
 qj Tryz.prog 62 [(qms (qlU x0))] H fun e H' => in1 (.int .i64) e qo (fun r0 => k r0 H')
def qan (x0 : Sl) (x1 : Int) (x2 : Sl) (H : AH) (k : Sl → Int → Int → AH → Prop) : Prop :=
 qj Tryz.prog 21 [(Sl.val x0), (qlk .i64 x1), (Sl.val x2)] H fun e H' => in3 .sl (.int .i64) (.int .i64) e qo (fun r0 r1 r2 => k r0 r1 r2 H')
def qaS (x0 : Sl) (x1 : Int) (H : AH) (k : Int → AH → Prop) : Prop :=
 qj Tryz.prog 64 [(Sl.val x0), (qlk .i64 x1)] H fun e H' => in1 (.int .i64) e qo (fun r0 => k r0 H')
def qn (x0 : Sl) (x1 : Int) (H : AH) (k : Sl → Int → Bool → AH → Prop) : Prop :=
 qj Tryz.prog 63 [(Sl.val x0), (qlk .i64 x1)] H fun e H' => in3 .sl (.int .i64) .bool e qo (fun r0 r1 r2 => k r0 r1 r2 H')
def qaF (x0 : Sl) (x1 : Int) (H : AH) (k : Sl → Int → AH → Prop) : Prop :=
 qj Tryz.prog 22 [(Sl.val x0), (qlk .i64 x1)] H fun e H' => in2 .sl (.int .i64) e qo (fun r0 r1 => k r0 r1 H')
def qP (x0 : Sl) (x1 : Int) (x2 : Int) (H : AH) (k : Bool → AH → Prop) : Prop :=
 qj Tryz.prog 66 [(Sl.val x0), (qlk .i64 x1), (qlk .i64 x2)] H fun e H' => in1 .bool e qo (fun r0 => k r0 H')
def qa2 (x0 : Int) (x1 : Int) (x2 : Int) (H : AH) (k : Bool → AH → Prop) : Prop :=
 qj Tryz.prog 117 [(qlk .i64 x0), (qlk .i64 x1), (qlk .i64 x2)] H fun e H' => in1 .bool e qo (fun r0 => k r0 H')
def qz (x0 : Sl) (x1 : Int) (x2 : Sl) (H : AH) (k : Sl → Bool → AH → Prop) : Prop :=
 qj Tryz.prog 67 [(Sl.val x0), (qlk .i64 x1), (Sl.val x2)] H fun e H' => in2 .sl .bool e qo (fun r0 r1 => k r0 r1 H')
def qaV (x0 : Sl) (x1 : Int) (x2 : Sl) (H : AH) (k : Sl → Int → AH → Prop) : Prop :=
 qj Tryz.prog 23 [(Sl.val x0), (qlk .i64 x1), (Sl.val x2)] H fun e H' => in2 .sl (.int .i64) e qo (fun r0 r1 => k r0 r1 H')
def qeY (x0 : Sl) (H : AH) (k : Sl → AH → Prop) : Prop :=
 qj Tryz.prog 24 [(Sl.val x0)] H fun e H' => in1 .sl e qo (fun r0 => k r0 H')
def qbs (x0 : Int) (H : AH) (k : Sl → AH → Prop) : Prop :=
 qj Tryz.prog 69 [(qlk .i64 x0)] H fun e H' => in1 .sl e qo (fun r0 => k r0 H')
def qa8 (x0 : Int) (H : AH) (k : Option Addr → AH → Prop) : Prop :=
 qj Tryz.prog 25 [(qlk .i64 x0)] H fun e H' => in1 .ptr e qo (fun r0 => k r0 H')
def qae (x0 : Option Addr) (H : AH) (k : Option Addr → AH → Prop) : Prop :=
 qj Tryz.prog 33 [(qls x0)] H fun e H' => in1 .ptr e qo (fun r0 => k r0 H')
def qac (x0 : Option Addr) (H : AH) (k : Sl → AH → Prop) : Prop :=
 qj Tryz.prog 81 [(qls x0)] H fun e H' => in1 .sl e qo (fun r0 => k r0 H')
def qM (x0 : Sl) (x1 : Sl) (H : AH) (k : Sl → AH → Prop) : Prop :=
 qj Tryz.prog 34 [(Sl.val x0), (Sl.val x1)] H fun e H' => in1 .sl e qo (fun r0 => k r0 H')
def qaa (x0 : Option Addr) (x1 : Int) (x2 : Int) (H : AH) (k : Bool → AH → Prop) : Prop :=
 qj Tryz.prog 70 [(qls x0), (qlk .i64 x1), (qlk .i64 x2)] H fun e H' => in1 .bool e qo (fun r0 => k r0 H')
def qaB (x0 : Option Addr) (x1 : Int) (H : AH) (k : Int → AH → Prop) : Prop :=
 qj Tryz.prog 35 [(qls x0), (qlk .i64 x1)] H fun e H' => in1 (.int .i64) e qo (fun r0 => k r0 H')
def qav (x0 : Option Addr) (x1 : Int) (x2 : Sl) (H : AH) (k : Int → AH → Prop) : Prop :=
 qj Tryz.prog 36 [(qls x0), (qlk .i64 x1), (Sl.val x2)] H fun e H' => in1 (.int .i64) e qo (fun r0 => k r0 H')
def qD (x0 : Option Addr) (x1 : Int) (H : AH) (k : Int → AH → Prop) : Prop :=
 qj Tryz.prog 37 [(qls x0), (qlk .i64 x1)] H fun e H' => in1 (.int .i64) e qo (fun r0 => k r0 H')
def qaj (x0 : Sl) (x1 : Int) (x2 : Int) (H : AH) (k : Sl → Bool → AH → Prop) : Prop :=
 qj Tryz.prog 146 [(Sl.val x0), (qlk .i64 x1), (qlk .i64 x2)] H fun e H' => in2 .sl .bool e qo (fun r0 r1 => k r0 r1 H')
def qbJ (x0 : Sl) (x1 : Int) (x2 : Int) (H : AH) (k : Sl → Int → AH → Prop) : Prop :=
 qj Tryz.prog 118 [(Sl.val x0), (qlk .i64 x1), (qlk .i64 x2)] H fun e H' => in2 .sl (.int .i64) e qo (fun r0 r1 => k r0 r1 H')
def qaA (x0 : Option Addr) (x1 : Int) (x2 : Int) (H : AH) (k : Sl → Int → AH → Prop) : Prop :=
 qj Tryz.prog 71 [(qls x0), (qlk .i64 x1), (qlk .i64 x2)] H fun e H' => in2 .sl (.int .i64) e qo (fun r0 r1 => k r0 r1 H')
def ql (x0 : Option Addr) (x1 : Option Addr) (x2 : List Value) (H : AH) (k : Int → AH → Prop) : Prop :=
 qj Tryz.prog 26 [(qls x0), (qls x1), (qms (qlU x2))] H fun e H' => in1 (.int .i64) e qo (fun r0 => k r0 H')
def qad (x0 : Sl) (x1 : Sl) (H : AH) (k : Bool → AH → Prop) : Prop :=
 qj Tryz.prog 80 [(Sl.val x0), (Sl.val x1)] H fun e H' => in1 .bool e qo (fun r0 => k r0 H')
def qG (x0 : Option Addr) (x1 : Option Addr) (H : AH) (k : Int → AH → Prop) : Prop :=
 qj Tryz.prog 28 [(qls x0), (qls x1)] H fun e H' => in1 (.int .i64) e qo (fun r0 => k r0 H')
def qa5 (x0 : Option Addr) (x1 : Int) (x2 : Int) (H : AH) (k : AH → Prop) : Prop :=
 qj Tryz.prog 38 [(qls x0), (qlk .i64 x1), (qlk .i64 x2)] H fun e H' => in0  e qo (k H')
def qaN (x0 : Option Addr) (H : AH) (k : AH → Prop) : Prop :=
 qj Tryz.prog 39 [(qls x0)] H fun e H' => in0  e qo (k H')
def qaO (x0 : Sl) (x1 : Sl) (H : AH) (k : Bool → AH → Prop) : Prop :=
 qj Tryz.prog 40 [(Sl.val x0), (Sl.val x1)] H fun e H' => in1 .bool e qo (fun r0 => k r0 H')
def qh (x0 : List Value) (x1 : Sl) (x2 : Sl) (x3 : List Value) (x4 : Int) (x5 : Int) (x6 : Sl) (H : AH) (k : Bool → AH → Prop) : Prop :=
 qj Tryz.prog 7 [(qms (qlU x0)), (Sl.val x1), (Sl.val x2), (qms (qlU x3)), (qlk .i64 x4), (qlk .i64 x5), (Sl.val x6)] H fun e H' => in1 .bool e qo (fun r0 => k r0 H')
def qaK (x0 : Int) (H : AH) (pk : Value → AH → Prop) (k : AH → Prop) : Prop :=
 qj Tryz.prog 100 [(qlk .i64 x0)] H fun e H' => in0  e (fun v => pk v H') (k H')
def qbn (x0 : Option Addr) (H : AH) (pk : Value → AH → Prop) (k : Sl → AH → Prop) : Prop :=
 qj Tryz.prog 96 [(qls x0)] H fun e H' => in1 .sl e (fun v => pk v H') (fun r0 => k r0 H')
def qcf (x0 : Int) (H : AH) (k : Int → AH → Prop) : Prop :=
 qj Tryz.prog 97 [(qlk .i64 x0)] H fun e H' => in1 (.int .i64) e qo (fun r0 => k r0 H')
def qaT (x0 : Option Addr) (H : AH) (pk : Value → AH → Prop) (k : AH → Prop) : Prop :=
 qj Tryz.prog 98 [(qls x0)] H fun e H' => in0  e (fun v => pk v H') (k H')
def qaw (x0 : Sl) (x1 : Int) (H : AH) (k : Sl → AH → Prop) : Prop :=
 qj Tryz.prog 162 [(Sl.val x0), (qlk .i64 x1)] H fun e H' => in1 .sl e qo (fun r0 => k r0 H')
def qbZ (x0 : List Value) (x1 : Sl) (H : AH) (k : Int → AH → Prop) : Prop :=
 qj Tryz.prog 163 [(qms (qlU x0)), (Sl.val x1)] H fun e H' => in1 (.int .i64) e qo (fun r0 => k r0 H')
def qa7 (x0 : Sl) (x1 : Int) (x2 : Sl) (H : AH) (k : Int → AH → Prop) : Prop :=
 qj Tryz.prog 134 [(Sl.val x0), (qlk .i64 x1), (Sl.val x2)] H fun e H' => in1 (.int .i64) e qo (fun r0 => k r0 H')
def qa9 (x0 : Sl) (H : AH) (k : Int → AH → Prop) : Prop :=
 qj Tryz.prog 178 [(Sl.val x0)] H fun e H' => in1 (.int .i64) e qo (fun r0 => k r0 H')
def qcg (x0 : Int) (x1 : Int) (H : AH) (k : Int → AH → Prop) : Prop :=
 qj Tryz.prog 179 [(qlk .i64 x0), (qlk .i64 x1)] H fun e H' => in1 (.int .i64) e qo (fun r0 => k r0 H')
def qbt (x0 : Sl) (x1 : Int) (x2 : Int) (H : AH) (k : Sl → AH → Prop) : Prop :=
 qj Tryz.prog 164 [(Sl.val x0), (qlk .i64 x1), (qlk .i64 x2)] H fun e H' => in1 .sl e qo (fun r0 => k r0 H')
def qaD (x0 : Sl) (x1 : Int) (x2 : Int) (H : AH) (k : Sl → AH → Prop) : Prop :=
 qj Tryz.prog 135 [(Sl.val x0), (qlk .i64 x1), (qlk .i64 x2)] H fun e H' => in1 .sl e qo (fun r0 => k r0 H')
def qcc (x0 : Sl) (x1 : Int) (x2 : Sl) (H : AH) (k : Sl → Int → Int → AH → Prop) : Prop :=
 qj Tryz.prog 99 [(Sl.val x0), (qlk .i64 x1), (Sl.val x2)] H fun e H' => in3 .sl (.int .i64) (.int .i64) e qo (fun r0 r1 r2 => k r0 r1 r2 H')
def qaC (x0 : Sl) (H : AH) (k : Sl → AH → Prop) : Prop :=
 qj Tryz.prog 165 [(Sl.val x0)] H fun e H' => in1 .sl e qo (fun r0 => k r0 H')
def qbi (x0 : Sl) (x1 : Sl) (H : AH) (k : Sl → AH → Prop) : Prop :=
 qj Tryz.prog 137 [(Sl.val x0), (Sl.val x1)] H fun e H' => in1 .sl e qo (fun r0 => k r0 H')
def qba (x0 : Sl) (H : AH) (k : Sl → AH → Prop) : Prop :=
 qj Tryz.prog 138 [(Sl.val x0)] H fun e H' => in1 .sl e qo (fun r0 => k r0 H')
def qai (x0 : Option Addr) (x1 : Sl) (H : AH) (k : Int → AH → Prop) : Prop :=
 qj Tryz.prog 139 [(qls x0), (Sl.val x1)] H fun e H' => in1 (.int .i64) e qo (fun r0 => k r0 H')
def qb3 (x0 : Option Addr) (x1 : Int) (H : AH) (k : Bool → AH → Prop) : Prop :=
 qj Tryz.prog 168 [(qls x0), (qlk .i64 x1)] H fun e H' => in1 .bool e qo (fun r0 => k r0 H')
def qbN (x0 : Option Addr) (x1 : Int) (H : AH) (k : Int → AH → Prop) : Prop :=
 qj Tryz.prog 169 [(qls x0), (qlk .i64 x1)] H fun e H' => in1 (.int .i64) e qo (fun r0 => k r0 H')
def qaM (x0 : Option Addr) (x1 : Int) (H : AH) (k : Int → Bool → AH → Prop) : Prop :=
 qj Tryz.prog 140 [(qls x0), (qlk .i64 x1)] H fun e H' => in2 (.int .i64) .bool e qo (fun r0 r1 => k r0 r1 H')
def qL (x0 : Option Addr) (x1 : Sl) (x2 : Sl) (H : AH) (pk : Value → AH → Prop) (k : AH → Prop) : Prop :=
 qj Tryz.prog 101 [(qls x0), (Sl.val x1), (Sl.val x2)] H fun e H' => in0  e (fun v => pk v H') (k H')
def qcj (x0 : Option Addr) (x1 : Int) (H : AH) (pk : Value → AH → Prop) (k : Int → AH → Prop) : Prop :=
 qj Tryz.prog 49 [(qls x0), (qlk .i64 x1)] H fun e H' => in1 (.int .i64) e (fun v => pk v H') (fun r0 => k r0 H')
def qaQ (x0 : Sl) (H : AH) (k : Int → AH → Prop) : Prop :=
 qj Tryz.prog 171 [(Sl.val x0)] H fun e H' => in1 (.int .i64) e qo (fun r0 => k r0 H')
def qJ (x0 : Sl) (x1 : Int) (H : AH) (k : Int → Int → Bool → AH → Prop) : Prop :=
 qj Tryz.prog 170 [(Sl.val x0), (qlk .i64 x1)] H fun e H' => in3 (.int .i64) (.int .i64) .bool e qo (fun r0 r1 r2 => k r0 r1 r2 H')
def qbz (x0 : Sl) (x1 : Int) (H : AH) (k : List Value → Bool → AH → Prop) : Prop :=
 qj Tryz.prog 141 [(Sl.val x0), (qlk .i64 x1)] H fun e H' => in2 .agg .bool e qo (fun r0 r1 => k r0 r1 H')
def qcE (x0 : Sl) (x1 : Int) (H : AH) (k : Sl → Int → AH → Prop) : Prop :=
 qj Tryz.prog 102 [(Sl.val x0), (qlk .i64 x1)] H fun e H' => in2 .sl (.int .i64) e qo (fun r0 r1 => k r0 r1 H')
def qbW (x0 : Option Addr) (H : AH) (pk : Value → AH → Prop) (k : Int → AH → Prop) : Prop :=
 qj Tryz.prog 54 [(qls x0)] H fun e H' => in1 (.int .i64) e (fun v => pk v H') (fun r0 => k r0 H')
def qcq (x0 : Option Addr) (x1 : Int) (H : AH) (pk : Value → AH → Prop) (k : AH → Prop) : Prop :=
 qj Tryz.prog 50 [(qls x0), (qlk .i64 x1)] H fun e H' => in0  e (fun v => pk v H') (k H')
def qbH (x0 : List Value) (x1 : Option Addr) (x2 : Option Addr) (H : AH) (k : Bool → AH → Prop) : Prop :=
 qj Tryz.prog 183 [(qms (qlU x0)), (qls x1), (qls x2)] H fun e H' => in1 .bool e qo (fun r0 => k r0 H')
def qbO (x0 : Sl) (x1 : Int) (x2 : Int) (H : AH) (k : Bool → AH → Prop) : Prop :=
 qj Tryz.prog 172 [(Sl.val x0), (qlk .i64 x1), (qlk .i64 x2)] H fun e H' => in1 .bool e qo (fun r0 => k r0 H')
def qcb (x0 : Sl) (x1 : Int) (x2 : Int) (H : AH) (k : Int → AH → Prop) : Prop :=
 qj Tryz.prog 142 [(Sl.val x0), (qlk .i64 x1), (qlk .i64 x2)] H fun e H' => in1 (.int .i64) e qo (fun r0 => k r0 H')
def qce (x0 : Sl) (x1 : Int) (x2 : Int) (H : AH) (k : Bool → AH → Prop) : Prop :=
 qj Tryz.prog 173 [(Sl.val x0), (qlk .i64 x1), (qlk .i64 x2)] H fun e H' => in1 .bool e qo (fun r0 => k r0 H')
def qb9 (x0 : Sl) (x1 : Int) (x2 : Int) (H : AH) (k : Sl → Bool → AH → Prop) : Prop :=
 qj Tryz.prog 143 [(Sl.val x0), (qlk .i64 x1), (qlk .i64 x2)] H fun e H' => in2 .sl .bool e qo (fun r0 r1 => k r0 r1 H')
def qcD (x0 : Sl) (x1 : Int) (x2 : Int) (H : AH) (k : Sl → Int → AH → Prop) : Prop :=
 qj Tryz.prog 103 [(Sl.val x0), (qlk .i64 x1), (qlk .i64 x2)] H fun e H' => in2 .sl (.int .i64) e qo (fun r0 r1 => k r0 r1 H')
def qcp (x0 : Option Addr) (x1 : Int) (x2 : Int) (H : AH) (pk : Value → AH → Prop) (k : Sl → AH → Prop) : Prop :=
 qj Tryz.prog 51 [(qls x0), (qlk .i64 x1), (qlk .i64 x2)] H fun e H' => in1 .sl e (fun v => pk v H') (fun r0 => k r0 H')
def qaH (x0 : Sl) (x1 : Int) (x2 : Sl) (H : AH) (k : Sl → Bool → AH → Prop) : Prop :=
 qj Tryz.prog 144 [(Sl.val x0), (qlk .i64 x1), (Sl.val x2)] H fun e H' => in2 .sl .bool e qo (fun r0 r1 => k r0 r1 H')
def qcu (x0 : Sl) (x1 : Int) (x2 : Sl) (H : AH) (k : Sl → Int → AH → Prop) : Prop :=
 qj Tryz.prog 104 [(Sl.val x0), (qlk .i64 x1), (Sl.val x2)] H fun e H' => in2 .sl (.int .i64) e qo (fun r0 r1 => k r0 r1 H')
def qch (x0 : Option Addr) (x1 : Int) (x2 : Sl) (H : AH) (pk : Value → AH → Prop) (k : AH → Prop) : Prop :=
 qj Tryz.prog 52 [(qls x0), (qlk .i64 x1), (Sl.val x2)] H fun e H' => in0  e (fun v => pk v H') (k H')
def qa0 (x0 : Option Addr) (x1 : Int) (H : AH) (pk : Value → AH → Prop) (k : AH → Prop) : Prop :=
 qj Tryz.prog 53 [(qls x0), (qlk .i64 x1)] H fun e H' => in0  e (fun v => pk v H') (k H')
def qw.l1 (x0 : Sl) (x1b0 : Option Addr) (x1b1 : Option Addr) (k : Int → AH → Prop) (t2 : Int × Int) (HL2 : AH) (it2 : (Int × Int) → AH → Prop) : Prop :=
 bcase (decide ((t2.2 : Int) < ((x0.n : Nat) : Int))) ((0 ≤ t2.2 ∧ t2.2 < ((x0.n : Nat) : Int)) ∧ onPtr x0.a fun a14 => ldA HL2 (qlm a14 (qlr t2.2 * 3)) 3 fun c15 => qbH c15 x1b0 x1b1 HL2 fun b16 H16 => bcase b16 (k t2.2 H16) (it2 (t2.1, (qll .i64 (t2.2 + (1 : Int)))) H16)) (k (-1 : Int) HL2)
def qw.b (x0 : Sl) (x1b0 : Option Addr) (x1b1 : Option Addr) (H : AH) (k : Int → AH → Prop) : Prop :=
 loopT (qw.l1 x0 x1b0 x1b1 k) (((0 : Int), (0 : Int)) : Int × Int) H
def qw.ann : Ann := { keep := fun r => match r with | 2 => [(4, .int .i64), (8, .int .i64)] | _ => [], ord := fun r => match r with  | _ => [] }
theorem qw.link {x0 : Sl} {x1b0 : Option Addr} {x1b1 : Option Addr} {H : AH} {k : Int → AH → Prop} (h : qw.b x0 x1b0 x1b1 H k) : qw x0 x1b0 x1b1 H k := lk1 pan hT hm Tryz.func149 (by kernel_rfl) (A := qw.ann) (by kernel_rfl) (by simp) (by kernel_rfl) h
def qX.b (x0 : Sl) (x1b0 : Option Addr) (x1b1 : Option Addr) (H : AH) (k : Bool → AH → Prop) : Prop :=
 qw x0 x1b0 x1b1 H fun n7 H7 => k (decide ((n7 : Int) ≥ (0 : Int))) H7
theorem qX.link {x0 : Sl} {x1b0 : Option Addr} {x1b1 : Option Addr} {H : AH} {k : Bool → AH → Prop} (h : qX.b x0 x1b0 x1b1 H k) : qX x0 x1b0 x1b1 H k := lk1 pan hT hm Tryz.func182 (by kernel_rfl) (A := ann0) (by kernel_rfl) (by simp) (by kernel_rfl) h
def qC.l1 (x0 : Sl) (x1b0 : Option Addr) (k : Int → AH → Prop) (t2 : Int × Int) (HL2 : AH) (it2 : (Int × Int) → AH → Prop) : Prop :=
 bcase (decide ((t2.2 : Int) < ((x0.n : Nat) : Int))) ((0 ≤ t2.2 ∧ t2.2 < ((x0.n : Nat) : Int)) ∧ onPtr x0.a fun a14 => ldA HL2 (qlm a14 (qlr t2.2 * 3)) 3 fun c15 => qbU c15 x1b0 HL2 fun b16 H16 => bcase b16 (k t2.2 H16) (it2 (t2.1, (qll .i64 (t2.2 + (1 : Int)))) H16)) (k (-1 : Int) HL2)
def qC.b (x0 : Sl) (x1b0 : Option Addr) (H : AH) (k : Int → AH → Prop) : Prop :=
 loopT (qC.l1 x0 x1b0 k) (((0 : Int), (0 : Int)) : Int × Int) H
def qC.ann : Ann := { keep := fun r => match r with | 2 => [(4, .int .i64), (8, .int .i64)] | _ => [], ord := fun r => match r with  | _ => [] }
theorem qC.link {x0 : Sl} {x1b0 : Option Addr} {H : AH} {k : Int → AH → Prop} (h : qC.b x0 x1b0 H k) : qC x0 x1b0 H k := lk1 pan hT hm Tryz.func149 (by kernel_rfl) (A := qC.ann) (by kernel_rfl) (by simp) (by kernel_rfl) h
def qA.j1 (k : Int → AH → Prop) (t4 : Int × Int) (it4 : (Int × Int) → AH → Prop) (Hs2 : AH) (x24 : Bool) : Prop :=
 bcase x24 (k (qll .i64 (t4.2 + (1 : Int))) Hs2) (it4 (t4.1, (qll .i64 (t4.2 + (1 : Int)))) Hs2)
def qA.l2 (x0 : Sl) (k : Int → AH → Prop) (t4 : Int × Int) (HL4 : AH) (it4 : (Int × Int) → AH → Prop) : Prop :=
 bcase (decide ((t4.2 : Int) < ((x0.n : Nat) : Int))) ((0 ≤ t4.2 ∧ t4.2 < ((x0.n : Nat) : Int)) ∧ onPtr x0.a fun a15 => ldA HL4 (qlm a15 (qlr t4.2 * 5)) 5 fun c16 => newC HL4 ⟨[(qlk .i64 (0 : Int)), (qlk .i64 (0 : Int)), (qlk .i64 (0 : Int)), (qlk .i64 (0 : Int)), (qlR none 0 0)], .rw, 0⟩ fun o6 H6 => (qly c16 = 5 ∧ ql0 c16 qq = true) ∧ stC H6 ⟨o6, 0, none⟩ c16 fun Hs2 => bcase (decide ((t4.2 : Int) ≥ (80 : Int))) (qA.j1 k t4 it4 Hs2 true) (elL (AH.cell? Hs2 (qlm ⟨o6, 0, none⟩ 4)) fun s21 => qA.j1 k t4 it4 Hs2 (decide ((((s21.n : Nat) : Int) : Int) > (500 : Int))))) (k (0 : Int) HL4)
def qA.b (x0 : Sl) (x1 : Sl) (H : AH) (k : Int → AH → Prop) : Prop :=
 bcase (decide ((((x1.n : Nat) : Int) : Int) > (200 : Int))) (k (1 : Int) H) (loopT (qA.l2 x0 k) (((0 : Int), (0 : Int)) : Int × Int) H)
def qA.ann : Ann := { keep := fun r => match r with | 4 => [(4, .int .i64), (12, .int .i64)] | _ => [], ord := fun r => match r with  | _ => [] }
theorem qA.link {x0 : Sl} {x1 : Sl} {H : AH} {k : Int → AH → Prop} (h : qA.b x0 x1 H k) : qA x0 x1 H k := lk1 pan hT hm Tryz.func12 (by kernel_rfl) (A := qA.ann) (by kernel_rfl) (by simp) (by kernel_rfl) h
def qbK.b (x0 : List Value) (H : AH) (k : Bool → AH → Prop) : Prop :=
 newC H ⟨x0, .rw, 0⟩ fun o1 H1 => elI .i64 (AH.cell? H1 (qlm ⟨o1, 0, none⟩ 0)) fun n4 => bcase (decide ((n4 : Int) ≥ (1 : Int))) (elI .i64 (AH.cell? H1 (qlm ⟨o1, 0, none⟩ 0)) fun n8 => bcase (decide ((n8 : Int) ≤ (64 : Int))) (elI .i64 (AH.cell? H1 (qlm ⟨o1, 0, none⟩ 1)) fun n13 => bcase (decide ((n13 : Int) ≥ (0 : Int))) (elI .i64 (AH.cell? H1 (qlm ⟨o1, 0, none⟩ 1)) fun n18 => bcase (decide ((n18 : Int) ≤ (16 : Int))) (elI .i64 (AH.cell? H1 (qlm ⟨o1, 0, none⟩ 2)) fun n23 => bcase (decide ((n23 : Int) ≥ (1 : Int))) (elI .i64 (AH.cell? H1 (qlm ⟨o1, 0, none⟩ 2)) fun n28 => bcase (decide ((n28 : Int) ≤ (1000 : Int))) (elI .i64 (AH.cell? H1 (qlm ⟨o1, 0, none⟩ 3)) fun n33 => bcase (decide ((n33 : Int) ≥ (1 : Int))) (elI .i64 (AH.cell? H1 (qlm ⟨o1, 0, none⟩ 3)) fun n38 => k (decide ((n38 : Int) ≤ (100 : Int))) H1) (k false H1)) (k false H1)) (k false H1)) (k false H1)) (k false H1)) (k false H1)) (k false H1)
theorem qbK.link {x0 : List Value} {H : AH} {k : Bool → AH → Prop} (h : qbK.b x0 H k) : qbK x0 H k := lk1 pan hT hm Tryz.func88 (by kernel_rfl) (A := ann0) (by kernel_rfl) (by simp) (by kernel_rfl) h
def qbV.b (x0 : List Value) (H : AH) (k : Int → AH → Prop) : Prop :=
 newC H ⟨x0, .rw, 0⟩ fun o1 H1 => ldA H1 ⟨o1, 0, none⟩ 4 fun c3 => qbK c3 H1 fun b4 H4 => bcase (!b4) (k (0 : Int) H4) (elI .i64 (AH.cell? H4 (qlm ⟨o1, 0, none⟩ 0)) fun n7 => k (qll .i64 ((16 : Int) + n7)) H4)
theorem qbV.link {x0 : List Value} {H : AH} {k : Int → AH → Prop} (h : qbV.b x0 H k) : qbV x0 H k := lk1 pan hT hm Tryz.func89 (by kernel_rfl) (A := ann0) (by kernel_rfl) (by simp) (by kernel_rfl) h
def qbP.b (x0 : List Value) (H : AH) (k : Int → AH → Prop) : Prop :=
 newC H ⟨x0, .rw, 0⟩ fun o1 H1 => ldA H1 ⟨o1, 0, none⟩ 4 fun c3 => qbK c3 H1 fun b4 H4 => bcase (!b4) (k (0 : Int) H4) (ldA H4 ⟨o1, 0, none⟩ 4 fun c6 => elI .i64 (AH.cell? H4 (qlm ⟨o1, 0, none⟩ 1)) fun n10 => qbV c6 H4 fun n7 H7 => AH.cell? H7 (qlm ⟨o1, 0, none⟩ 1) = some (qlk .i64 n10) ∧ k (qll .i64 ((qll .i64 (n7 + (1 : Int))) + n10)) H7)
def qbP.ann : Ann := { keep := fun r => match r with  | _ => [], ord := fun r => match r with | 3 => [0, 3, 4, 1, 2, 5, 6] | _ => [] }
theorem qbP.link {x0 : List Value} {H : AH} {k : Int → AH → Prop} (h : qbP.b x0 H k) : qbP x0 H k := lk1 pan hT hm Tryz.func32 (by kernel_rfl) (A := qbP.ann) (by kernel_rfl) (by simp) (by kernel_rfl) h
def nvm_New.l1 (x1 : Sl) (k : Option Addr → AH → Prop) (o16 : Nat) (s20 : Sl) (t5 : Int) (HL5 : AH) (it5 : (Int) → AH → Prop) : Prop :=
 bcase (decide ((t5 : Int) < ((s20.n : Nat) : Int))) (elL (AH.cell? HL5 (qlm ⟨o16, 0, none⟩ 0)) fun s28 => (0 ≤ t5 ∧ t5 < ((s28.n : Nat) : Int)) ∧ onPtr s28.a fun a30 => stC HL5 (qlm (qlm a30 (qlr t5 * 10)) 9) [(qlk .i64 (-1 : Int))] fun Hs2 => bcase (decide ((t5 : Int) < ((x1.n : Nat) : Int))) (elL (AH.cell? Hs2 (qlm ⟨o16, 0, none⟩ 0)) fun s39 => (0 ≤ t5 ∧ t5 < ((x1.n : Nat) : Int)) ∧ onPtr x1.a fun a43 => elI .i64 (AH.cell? Hs2 (qlm a43 (qlr t5 * 1))) fun n44 => (0 ≤ t5 ∧ t5 < ((s39.n : Nat) : Int)) ∧ onPtr s39.a fun a45 => stC Hs2 (qlm (qlm a45 (qlr t5 * 10)) 9) [(qlk .i64 n44)] fun Hs4 => it5 (qll .i64 (t5 + (1 : Int))) Hs4) (it5 (qll .i64 (t5 + (1 : Int))) Hs2)) (k (some ⟨o16, 0, none⟩) HL5)
def nvm_New.j2 (x0 : Int) (x1 : Sl) (H : AH) (k : Option Addr → AH → Prop) (x12 : Bool) : Prop :=
 bcase x12 (k none H) ((0 ≤ x0 ∧ x0 ≤ x0 ∧ x0 ≤ (lim : Int)) ∧ newC H ⟨zerosOf (qlr x0) [(qlk .u64 (0 : Int)), (qlk .u64 (0 : Int)), (qlk .u64 (0 : Int)), (qlk .u64 (0 : Int)), (qlk .u64 (0 : Int)), (qlk .u64 (0 : Int)), (qlk .u64 (0 : Int)), (qlk .u64 (0 : Int)), (qlk .i64 (0 : Int)), (qlk .i64 (0 : Int))], .rw, 10⟩ fun o14 H14 => newC H14 ⟨[(qlR (some ⟨o14, 0, none⟩) (qlr x0) 1), (qlk .u64 (0 : Int)), (qlk .u64 (0 : Int)), (qlk .u64 (0 : Int)), (qlk .u64 (0 : Int)), (qlk .u64 (0 : Int)), (qlk .u64 (0 : Int)), (qlk .u64 (0 : Int)), (qlk .u64 (0 : Int)), (qlk .u64 (0 : Int)), (qlk .u64 (0 : Int)), (qlk .u64 (0 : Int)), (qlk .u64 (0 : Int)), (qlk .u64 (0 : Int)), (qlk .u64 (0 : Int)), (qlk .u64 (0 : Int)), (qlk .u64 (0 : Int)), (qlk .u64 (0 : Int)), (qlk .u64 (0 : Int)), (qlk .u64 (0 : Int)), (qlk .u64 (0 : Int)), (qlk .u64 (0 : Int)), (qlk .u64 (0 : Int)), (qlk .u64 (0 : Int)), (qlk .u64 (0 : Int)), (qlk .u64 (0 : Int)), (qlk .u64 (0 : Int)), (qlk .u64 (0 : Int)), (qlk .u64 (0 : Int)), (qlk .u64 (0 : Int)), (qlk .u64 (0 : Int)), (qlk .u64 (0 : Int)), (qlk .u64 (0 : Int)), (qlk .u64 (0 : Int)), (qlk .u64 (0 : Int)), (qlk .u64 (0 : Int)), (qlk .i64 (0 : Int)), (qlk .i64 (-1 : Int)), (qlk .i64 (0 : Int)), (qlW false)], .rw, 0⟩ fun o16 H16 => elL (AH.cell? H16 (qlm ⟨o16, 0, none⟩ 0)) fun s20 => loopT (nvm_New.l1 x1 k o16 s20) (((0 : Int)) : Int) H16)
def nvm_New.b (x0 : Int) (x1 : Sl) (H : AH) (k : Option Addr → AH → Prop) : Prop :=
 bcase (decide ((x0 : Int) < (1 : Int))) (nvm_New.j2 x0 x1 H k true) (nvm_New.j2 x0 x1 H k (decide ((x0 : Int) > (200 : Int))))
def nvm_New.ann : Ann := { keep := fun r => match r with | 5 => [(22, .int .i64)] | _ => [], ord := fun r => match r with | 9 => [0, 1, 2, 3, 4, 5, 6, 7, 8, 9, 10, 11] | _ => [] }
theorem nvm_New.link {x0 : Int} {x1 : Sl} {H : AH} {k : Option Addr → AH → Prop} (h : nvm_New.b x0 x1 H k) : nvm_New x0 x1 H k := lk1 pan hT hm Tryz.func31 (by kernel_rfl) (A := nvm_New.ann) (by kernel_rfl) (by simp) (by kernel_rfl) h
def qay.b (x0 : Option Addr) (H : AH) (k : Int → AH → Prop) : Prop :=
 bcase (ql1 x0) (k (0 : Int) H) (onPtr x0 fun a6 => elL (AH.cell? H (qlm a6 0)) fun s8 => k ((s8.n : Nat) : Int) H)
theorem qay.link {x0 : Option Addr} {H : AH} {k : Int → AH → Prop} (h : qay.b x0 H k) : qay x0 H k := lk1 pan hT hm Tryz.func119 (by kernel_rfl) (A := ann0) (by kernel_rfl) (by simp) (by kernel_rfl) h
def qaI.b (x0 : Option Addr) (H : AH) (k : Bool → AH → Prop) : Prop :=
 bcase (!(ql1 x0)) (onPtr x0 fun a7 => elB (AH.cell? H (qlm a7 39)) fun b9 => k b9 H) (k false H)
theorem qaI.link {x0 : Option Addr} {H : AH} {k : Bool → AH → Prop} (h : qaI.b x0 H k) : qaI x0 H k := lk1 pan hT hm Tryz.func120 (by kernel_rfl) (A := ann0) (by kernel_rfl) (by simp) (by kernel_rfl) h
def qb2.j1 (x0 : Option Addr) (k : Int → AH → Prop) (x5 : Bool) (Hj : AH) : Prop :=
 bcase x5 (k (1 : Int) Hj) (qaI x0 Hj fun b18 H18 => bcase b18 (k (2 : Int) H18) (k (0 : Int) H18))
def qb2.b (x0 : Option Addr) (x1 : List Value) (H : AH) (k : Int → AH → Prop) : Prop :=
 newC H ⟨x1, .rw, 0⟩ fun o3 H3 => ldA H3 ⟨o3, 0, none⟩ 4 fun c6 => qbK c6 H3 fun b7 H7 => bcase (!b7) (qb2.j1 x0 k true H7) (ldA H7 ⟨o3, 0, none⟩ 4 fun c12 => qay x0 H7 fun n11 H11 => AH.row? H11 ⟨o3, 0, none⟩ 4 = some c12 ∧ qbP c12 H11 fun n13 H13 => qb2.j1 x0 k ((n11 : Int) != n13) H13)
def qb2.ann : Ann := { keep := fun r => match r with  | _ => [], ord := fun r => match r with | 1 => [0, 1, 2, 3, 4, 6, 5, 7, 8, 9, 10] | _ => [] }
theorem qb2.link {x0 : Option Addr} {x1 : List Value} {H : AH} {k : Int → AH → Prop} (h : qb2.b x0 x1 H k) : qb2 x0 x1 H k := lk1 pan hT hm Tryz.func72 (by kernel_rfl) (A := qb2.ann) (by kernel_rfl) (by simp) (by kernel_rfl) h
def qa6.b (x0 : Option Addr) (x1 : Int) (H : AH) (k : Bool → AH → Prop) : Prop :=
 bcase (!(ql1 x0)) (bcase (decide ((x1 : Int) ≥ (0 : Int))) (k (decide ((x1 : Int) < (35 : Int))) H) (k false H)) (k false H)
theorem qa6.link {x0 : Option Addr} {x1 : Int} {H : AH} {k : Bool → AH → Prop} (h : qa6.b x0 x1 H k) : qa6 x0 x1 H k := lk1 pan hT hm Tryz.func90 (by kernel_rfl) (A := ann0) (by kernel_rfl) (by simp) (by kernel_rfl) h
def qS.b (x0 : Option Addr) (x1 : Int) (H : AH) (k : Int → Int → AH → Prop) : Prop :=
 qa6 x0 x1 H fun b9 H9 => bcase (!b9) (k (0 : Int) (1 : Int) H9) (onPtr x0 fun a13 => elB (AH.cell? H9 (qlm a13 39)) fun b15 => bcase b15 (k (0 : Int) (2 : Int) H9) (onPtr x0 fun a18 => (0 ≤ x1 ∧ x1 < ((35 : Nat) : Int)) ∧ elI .u64 (AH.cell? H9 (qlm (qlm a18 1) (qlr x1 * 1))) fun n21 => k n21 (0 : Int) H9))
theorem qS.link {x0 : Option Addr} {x1 : Int} {H : AH} {k : Int → Int → AH → Prop} (h : qS.b x0 x1 H k) : qS x0 x1 H k := lk2 pan hT hm Tryz.func76 (by kernel_rfl) (A := ann0) (by kernel_rfl) (by simp) (by simp) (by kernel_rfl) h
def qU.j1 (x0 : Option Addr) (k : Sl → Int → AH → Prop) (t3 : Sl × Int × Sl × Int) (HL3 : AH) : Prop :=
 onPtr x0 fun a34 => elP (AH.cell? HL3 (qlm a34 0)) fun p36 => qaI p36 HL3 fun b37 H37 => bcase b37 (k ⟨none, 0, 0⟩ (2 : Int) H37) (k t3.2.2.1 (0 : Int) H37)
def qU.l2 (x0 : Option Addr) (k : Sl → Int → AH → Prop) (n11 : Int) (t3 : Sl × Int × Sl × Int) (HL3 : AH) (it3 : (Sl × Int × Sl × Int) → AH → Prop) : Prop :=
 bcase (decide ((t3.2.2.2 : Int) < n11)) (onPtr x0 fun a17 => elP (AH.cell? HL3 (qlm a17 0)) fun p19 => qS p19 (qll .i64 ((3 : Int) + t3.2.2.2)) HL3 fun n22a n22b H22 => bcase ((n22b : Int) != (0 : Int)) (k ⟨none, 0, 0⟩ n22b H22) (newC H22 ⟨[(qlk .u64 n22a)], .rw, 1⟩ fun o30 H30 => appendC 1 H30 t3.2.2.1 ⟨(some ⟨o30, 0, none⟩), 1, 1⟩ fun s31 H31 => it3 (t3.1, t3.2.1, s31, (qll .i64 (t3.2.2.2 + (1 : Int)))) H31)) (qU.j1 x0 k t3 HL3)
def qU.b (x0 : Option Addr) (H : AH) (k : Sl → Int → AH → Prop) : Prop :=
 onPtr x0 fun a9 => elI .i64 (AH.cell? H (qlm a9 2)) fun n11 => loopT (qU.l2 x0 k n11) ((⟨none, 0, 0⟩, (0 : Int), ⟨none, 0, 0⟩, (0 : Int)) : Sl × Int × Sl × Int) H
def qU.ann : Ann := { keep := fun r => match r with | 3 => [(2, .sl), (3, .int .i64), (4, .sl), (12, .int .i64)] | _ => [], ord := fun r => match r with  | _ => [] }
theorem qU.link {x0 : Option Addr} {H : AH} {k : Sl → Int → AH → Prop} (h : qU.b x0 H k) : qU x0 H k := lk2 pan hT hm Tryz.func160 (by kernel_rfl) (A := qU.ann) (by kernel_rfl) (by simp) (by simp) (by kernel_rfl) h
def qcn.b (x0 : Int) (H : AH) (k : Int → AH → Prop) : Prop :=
 bcase (decide ((x0 : Int) < (1 : Int))) (k (0 : Int) H) (k (qll .u64 ((qll .u64 x0) + (1 : Int))) H)
theorem qcn.link {x0 : Int} {H : AH} {k : Int → AH → Prop} (h : qcn.b x0 H k) : qcn x0 H k := lk1 pan hT hm Tryz.func159 (by kernel_rfl) (A := ann0) (by kernel_rfl) (by simp) (by kernel_rfl) h
def qbj.j1 (k : Bool → AH → Prop) (t2 : Bool × Int) (it2 : (Bool × Int) → AH → Prop) (H16 : AH) (x33 : Bool) : Prop :=
 bcase x33 (k false H16) (it2 (t2.1, (qll .i64 (t2.2 + (1 : Int)))) H16)
def qbj.l2 (x0 : Sl) (x1 : Int) (k : Bool → AH → Prop) (t2 : Bool × Int) (HL2 : AH) (it2 : (Bool × Int) → AH → Prop) : Prop :=
 bcase (decide ((t2.2 : Int) < ((x0.n : Nat) : Int))) ((0 ≤ t2.2 ∧ t2.2 < ((x0.n : Nat) : Int)) ∧ onPtr x0.a fun a12 => elI .u64 (AH.cell? HL2 (qlm a12 (qlr t2.2 * 1))) fun n13 => qcn x1 HL2 fun n16 H16 => bcase (decide ((n13 : Int) > n16)) (qbj.j1 k t2 it2 H16 true) (bcase (decide ((t2.2 : Int) > (0 : Int))) (bcase ((n13 : Int) != (0 : Int)) ((0 ≤ (qll .i64 (t2.2 - (1 : Int))) ∧ (qll .i64 (t2.2 - (1 : Int))) < ((x0.n : Nat) : Int)) ∧ onPtr x0.a fun a29 => elI .u64 (AH.cell? H16 (qlm a29 (qlr (qll .i64 (t2.2 - (1 : Int))) * 1))) fun n30 => qbj.j1 k t2 it2 H16 ((n30 : Int) == (0 : Int))) (qbj.j1 k t2 it2 H16 false)) (qbj.j1 k t2 it2 H16 false))) (k (decide ((x1 : Int) ≥ (1 : Int))) HL2)
def qbj.b (x0 : Sl) (x1 : Int) (H : AH) (k : Bool → AH → Prop) : Prop :=
 loopT (qbj.l2 x0 x1 k) ((false, (0 : Int)) : Bool × Int) H
def qbj.ann : Ann := { keep := fun r => match r with | 2 => [(4, .bool), (9, .int .i64)] | _ => [], ord := fun r => match r with  | _ => [] }
theorem qbj.link {x0 : Sl} {x1 : Int} {H : AH} {k : Bool → AH → Prop} (h : qbj.b x0 x1 H k) : qbj x0 x1 H k := lk1 pan hT hm Tryz.func174 (by kernel_rfl) (A := qbj.ann) (by kernel_rfl) (by simp) (by kernel_rfl) h
def qbf.j1 (x0 : Option Addr) (x1 : Int) (x2 : Int) (k : Option Addr → AH → Prop) (x31 : Bool) (Hj : AH) : Prop :=
 bcase x31 (k none Hj) (newC Hj ⟨[(qls x0), (qlk .i64 x1), (qlk .i64 x2)], .rw, 0⟩ fun o36 H36 => qU (some ⟨o36, 0, none⟩) H36 fun s39a n39b H39 => bcase ((n39b : Int) != (0 : Int)) (k none H39) (qbj s39a x1 H39 fun b47 H47 => bcase (!b47) (k none H47) (k (some ⟨o36, 0, none⟩) H47)))
def qbf.b (x0 : Option Addr) (x1 : Int) (x2 : Int) (H : AH) (k : Option Addr → AH → Prop) : Prop :=
 bcase (ql1 x0) (qbf.j1 x0 x1 x2 k true H) (bcase (decide ((x1 : Int) < (1 : Int))) (qbf.j1 x0 x1 x2 k true H) (bcase (decide ((x2 : Int) < (0 : Int))) (qbf.j1 x0 x1 x2 k true H) (bcase (decide ((x2 : Int) > (16 : Int))) (qbf.j1 x0 x1 x2 k true H) (qay x0 H fun n26 H26 => qbf.j1 x0 x1 x2 k (((qll .i64 (n26 - x2)) : Int) != x1) H26))))
theorem qbf.link {x0 : Option Addr} {x1 : Int} {x2 : Int} {H : AH} {k : Option Addr → AH → Prop} (h : qbf.b x0 x1 x2 H k) : qbf x0 x1 x2 H k := lk1 pan hT hm Tryz.func147 (by kernel_rfl) (A := ann0) (by kernel_rfl) (by simp) (by kernel_rfl) h
def qbv.j1 (x0 : Option Addr) (x1 : Int) (x3 : Int) (k : Option Addr → AH → Prop) (p32 : Option Addr) (H37 : AH) (x45 : Bool) : Prop :=
 bcase x45 (k none H37) (newC H37 ⟨[(qls x0), (qls p32), (qlk .i64 x1), (qlk .i64 x3), (qlk .i64 (0 : Int))], .rw, 0⟩ fun o51 H51 => k (some ⟨o51, 0, none⟩) H51)
def qbv.j2 (x0 : Option Addr) (x1 : Int) (x2 : Int) (x3 : Int) (k : Option Addr → AH → Prop) (x27 : Bool) (Hj : AH) : Prop :=
 bcase x27 (k none Hj) (qbf x0 (qll .i64 (x1 + (1 : Int))) x2 Hj fun p32 H32 => bcase (ql1 p32) (k none H32) (qS x0 (0 : Int) H32 fun n37a n37b H37 => bcase ((n37b : Int) != (0 : Int)) (qbv.j1 x0 x1 x3 k p32 H37 true) (qbv.j1 x0 x1 x3 k p32 H37 (decide ((n37a : Int) > (1099511627776 : Int))))))
def qbv.b (x0 : Option Addr) (x1 : Int) (x2 : Int) (x3 : Int) (H : AH) (k : Option Addr → AH → Prop) : Prop :=
 bcase (decide ((x1 : Int) < (1 : Int))) (qbv.j2 x0 x1 x2 x3 k true H) (qay x0 H fun n17 H17 => bcase (decide ((x1 : Int) > n17)) (qbv.j2 x0 x1 x2 x3 k true H17) (bcase (decide ((x3 : Int) < (1 : Int))) (qbv.j2 x0 x1 x2 x3 k true H17) (qbv.j2 x0 x1 x2 x3 k (decide ((x3 : Int) > (1000 : Int))) H17)))
theorem qbv.link {x0 : Option Addr} {x1 : Int} {x2 : Int} {x3 : Int} {H : AH} {k : Option Addr → AH → Prop} (h : qbv.b x0 x1 x2 x3 H k) : qbv x0 x1 x2 x3 H k := lk1 pan hT hm Tryz.func121 (by kernel_rfl) (A := ann0) (by kernel_rfl) (by simp) (by kernel_rfl) h
def qb7.b (x0 : Option Addr) (x1 : List Value) (H : AH) (k : Option Addr → AH → Prop) : Prop :=
 newC H ⟨x1, .rw, 0⟩ fun o3 H3 => ldA H3 ⟨o3, 0, none⟩ 4 fun c6 => elI .i64 (AH.cell? H3 (qlm ⟨o3, 0, none⟩ 1)) fun n9 => elI .i64 (AH.cell? H3 (qlm ⟨o3, 0, none⟩ 2)) fun n11 => qbV c6 H3 fun n7 H7 => AH.cell? H7 (qlm ⟨o3, 0, none⟩ 2) = some (qlk .i64 n11) ∧ AH.cell? H7 (qlm ⟨o3, 0, none⟩ 1) = some (qlk .i64 n9) ∧ qbv x0 n7 n9 n11 H7 fun p12 H12 => k p12 H12
def qb7.ann : Ann := { keep := fun r => match r with  | _ => [], ord := fun r => match r with | 1 => [0, 1, 3, 4, 5, 6, 2, 7, 8] | _ => [] }
theorem qb7.link {x0 : Option Addr} {x1 : List Value} {H : AH} {k : Option Addr → AH → Prop} (h : qb7.b x0 x1 H k) : qb7 x0 x1 H k := lk1 pan hT hm Tryz.func73 (by kernel_rfl) (A := qb7.ann) (by kernel_rfl) (by simp) (by kernel_rfl) h
def qcG.b (x0 : List Value) (H : AH) (k : Int → AH → Prop) : Prop :=
 newC H ⟨x0, .rw, 0⟩ fun o1 H1 => ldA H1 ⟨o1, 0, none⟩ 4 fun c3 => qbK c3 H1 fun b4 H4 => bcase (!b4) (k (0 : Int) H4) (elI .i64 (AH.cell? H4 (qlm ⟨o1, 0, none⟩ 0)) fun n7 => k (qll .i64 (n7 * (8 : Int))) H4)
theorem qcG.link {x0 : List Value} {H : AH} {k : Int → AH → Prop} (h : qcG.b x0 H k) : qcG x0 H k := lk1 pan hT hm Tryz.func84 (by kernel_rfl) (A := ann0) (by kernel_rfl) (by simp) (by kernel_rfl) h
def qbx.b (x0 : Int) (H : AH) (k : Bool → AH → Prop) : Prop :=
 bcase (decide ((x0 : Int) ≥ (8 : Int))) (bcase (decide ((x0 : Int) ≤ (512 : Int))) (((8 : Int) : Int) ≠ 0 ∧ k (((qmg x0 (8 : Int)) : Int) == (0 : Int)) H) (k false H)) (k false H)
theorem qbx.link {x0 : Int} {H : AH} {k : Bool → AH → Prop} (h : qbx.b x0 H k) : qbx x0 H k := lk1 pan hT hm Tryz.func126 (by kernel_rfl) (A := ann0) (by kernel_rfl) (by simp) (by kernel_rfl) h
def qbF.b (x0 : Int) (H : AH) (k : Bool → AH → Prop) : Prop :=
 bcase (decide ((x0 : Int) ≥ (2 : Int))) (k (decide ((x0 : Int) ≤ (512 : Int))) H) (k false H)
theorem qbF.link {x0 : Int} {H : AH} {k : Bool → AH → Prop} (h : qbF.b x0 H k) : qbF x0 H k := lk1 pan hT hm Tryz.func148 (by kernel_rfl) (A := ann0) (by kernel_rfl) (by simp) (by kernel_rfl) h
def qb4.b (x0 : Int) (x1 : Bool) (H : AH) (k : Int → AH → Prop) : Prop :=
 qbF x0 H fun b7 H7 => bcase (!b7) (k (0 : Int) H7) ((0 : Int) ≤ (1 : Int) ∧ bcase x1 (k (orI .u64 (shlI .u64 (qll .u64 x0) (1 : Int)) (1 : Int)) H7) (k (shlI .u64 (qll .u64 x0) (1 : Int)) H7))
theorem qb4.link {x0 : Int} {x1 : Bool} {H : AH} {k : Int → AH → Prop} (h : qb4.b x0 x1 H k) : qb4 x0 x1 H k := lk1 pan hT hm Tryz.func127 (by kernel_rfl) (A := ann0) (by kernel_rfl) (by simp) (by kernel_rfl) h
def qcs.b (x0 : Int) (H : AH) (k : Sl → AH → Prop) : Prop :=
 qbx x0 H fun b5 H5 => bcase (!b5) (k ⟨none, 0, 0⟩ H5) ((0 ≤ x0 ∧ x0 ≤ x0 ∧ x0 ≤ (lim : Int)) ∧ newC H5 ⟨zerosOf (qlr x0) [(qlk .u64 (0 : Int))], .rw, 1⟩ fun o8 H8 => qb4 x0 false H8 fun n11 H11 => (0 ≤ (0 : Int) ∧ (0 : Int) < (((qlr x0) : Nat) : Int)) ∧ stC H11 (qlm ⟨o8, 0, none⟩ (qlr (0 : Int) * 1)) [(qlk .u64 n11)] fun Hs2 => k ⟨(some ⟨o8, 0, none⟩), (qlr x0), 1⟩ Hs2)
theorem qcs.link {x0 : Int} {H : AH} {k : Sl → AH → Prop} (h : qcs.b x0 H k) : qcs x0 H k := lk1 pan hT hm Tryz.func83 (by kernel_rfl) (A := ann0) (by kernel_rfl) (by simp) (by kernel_rfl) h
def qbQ.b (x0 : List Value) (x1 : Int) (H : AH) (k : Int → AH → Prop) : Prop :=
 newC H ⟨x0, .rw, 0⟩ fun o2 H2 => ldA H2 ⟨o2, 0, none⟩ 4 fun c5 => qbK c5 H2 fun b6 H6 => bcase (!b6) (k (-1 : Int) H6) (bcase (decide ((x1 : Int) < (0 : Int))) (k (-1 : Int) H6) (elI .i64 (AH.cell? H6 (qlm ⟨o2, 0, none⟩ 0)) fun n15 => bcase (decide ((x1 : Int) ≥ n15)) (k (-1 : Int) H6) (k (qll .i64 ((16 : Int) + x1)) H6)))
theorem qbQ.link {x0 : List Value} {x1 : Int} {H : AH} {k : Int → AH → Prop} (h : qbQ.b x0 x1 H k) : qbQ x0 x1 H k := lk1 pan hT hm Tryz.func56 (by kernel_rfl) (A := ann0) (by kernel_rfl) (by simp) (by kernel_rfl) h
def qbp.j1 (x0 : Option Addr) (H : AH) (k : Int → AH → Prop) (x5 : Bool) : Prop :=
 bcase x5 (k (1 : Int) H) (onPtr x0 fun a22 => elP (AH.cell? H (qlm a22 0)) fun p24 => qaI p24 H fun b25 H25 => bcase b25 (k (2 : Int) H25) (k (0 : Int) H25))
def qbp.b (x0 : Option Addr) (x1 : Int) (H : AH) (k : Int → AH → Prop) : Prop :=
 bcase (ql1 x0) (qbp.j1 x0 H k true) (bcase (decide ((x1 : Int) < (0 : Int))) (qbp.j1 x0 H k true) (onPtr x0 fun a15 => elI .i64 (AH.cell? H (qlm a15 2)) fun n17 => qbp.j1 x0 H k (decide ((x1 : Int) ≥ n17))))
theorem qbp.link {x0 : Option Addr} {x1 : Int} {H : AH} {k : Int → AH → Prop} (h : qbp.b x0 x1 H k) : qbp x0 x1 H k := lk1 pan hT hm Tryz.func128 (by kernel_rfl) (A := ann0) (by kernel_rfl) (by simp) (by kernel_rfl) h
def qbL.b (x0 : Option Addr) (H : AH) (k : Int → AH → Prop) : Prop :=
 bcase (ql1 x0) (k (0 : Int) H) (onPtr x0 fun a9 => elP (AH.cell? H (qlm a9 0)) fun p11 => qS p11 (0 : Int) H fun n12a n12b H12 => k (qll .i64 n12a) H12)
theorem qbL.link {x0 : Option Addr} {H : AH} {k : Int → AH → Prop} (h : qbL.b x0 H k) : qbL x0 H k := lk1 pan hT hm Tryz.func82 (by kernel_rfl) (A := ann0) (by kernel_rfl) (by simp) (by kernel_rfl) h
def gap_may.b (x0 : Int) (x1 : Int) (H : AH) (k : Bool → AH → Prop) : Prop :=
 bcase (decide ((x0 : Int) ≥ (1 : Int))) (bcase (decide ((x0 : Int) ≤ (100000 : Int))) (k (decide ((x1 : Int) ≥ (0 : Int))) H) (k false H)) (k false H)
theorem gap_may.link {x0 : Int} {x1 : Int} {H : AH} {k : Bool → AH → Prop} (h : gap_may.b x0 x1 H k) : gap_may x0 x1 H k := lk1 pan hT hm Tryz.func153 (by kernel_rfl) (A := ann0) (by kernel_rfl) (by simp) (by kernel_rfl) h
def qcI.b (x0 : Int) (x1 : Int) (H : AH) (k : Int → AH → Prop) : Prop :=
 ((qll .i64 (x0 + (1 : Int))) : Int) ≠ 0 ∧ (x0 : Int) ≠ 0 ∧ k (qmg (qll .i64 (qmo x1 (qll .i64 (x0 + (1 : Int))))) x0) H
theorem qcI.link {x0 : Int} {x1 : Int} {H : AH} {k : Int → AH → Prop} (h : qcI.b x0 x1 H k) : qcI x0 x1 H k := lk1 pan hT hm Tryz.func154 (by kernel_rfl) (A := ann0) (by kernel_rfl) (by simp) (by kernel_rfl) h
def gap_Gap.b (x0 : Int) (x1 : Int) (H : AH) (k : Int → AH → Prop) : Prop :=
 gap_may x0 x1 H fun b7 H7 => bcase (!b7) (k (-1 : Int) H7) (((qll .i64 (x0 + (1 : Int))) : Int) ≠ 0 ∧ k (qll .i64 (x0 - (qmg x1 (qll .i64 (x0 + (1 : Int)))))) H7)
theorem gap_Gap.link {x0 : Int} {x1 : Int} {H : AH} {k : Int → AH → Prop} (h : gap_Gap.b x0 x1 H k) : gap_Gap x0 x1 H k := lk1 pan hT hm Tryz.func155 (by kernel_rfl) (A := ann0) (by kernel_rfl) (by simp) (by kernel_rfl) h
def qca.j1 (x0 : Int) (x1 : Int) (x2 : Int) (k : Int → AH → Prop) (H10 : AH) (x20 : Bool) : Prop :=
 bcase x20 (k (-1 : Int) H10) (qcI x0 x1 H10 fun n24 H24 => (x0 : Int) ≠ 0 ∧ gap_Gap x0 x1 H24 fun n31 H31 => bcase (decide (((qmg (qll .i64 (x2 + n24)) x0) : Int) ≥ n31)) (k (qll .i64 ((qmg (qll .i64 (x2 + n24)) x0) + (1 : Int))) H31) (k (qmg (qll .i64 (x2 + n24)) x0) H31))
def qca.b (x0 : Int) (x1 : Int) (x2 : Int) (H : AH) (k : Int → AH → Prop) : Prop :=
 gap_may x0 x1 H fun b10 H10 => bcase (!b10) (qca.j1 x0 x1 x2 k H10 true) (bcase (decide ((x2 : Int) < (0 : Int))) (qca.j1 x0 x1 x2 k H10 true) (qca.j1 x0 x1 x2 k H10 (decide ((x2 : Int) ≥ x0))))
theorem qca.link {x0 : Int} {x1 : Int} {x2 : Int} {H : AH} {k : Int → AH → Prop} (h : qca.b x0 x1 x2 H k) : qca x0 x1 x2 H k := lk1 pan hT hm Tryz.func130 (by kernel_rfl) (A := ann0) (by kernel_rfl) (by simp) (by kernel_rfl) h
def qa3.l1 (x0 : Sl) (x1 : Int) (x2 : Int) (k : Int → AH → Prop) (t4 : Int × Int) (HL4 : AH) (it4 : (Int × Int) → AH → Prop) : Prop :=
 bcase (decide ((t4.2 : Int) ≥ (0 : Int))) ((0 ≤ t4.2 ∧ t4.2 < ((x0.n : Nat) : Int)) ∧ onPtr x0.a fun a24 => elI .u64 (AH.cell? HL4 (qlm a24 (qlr t4.2 * 1))) fun n25 => bcase ((n25 : Int) == (qll .u64 ((qll .u64 x2) + (1 : Int)))) (k (qll .i64 (x1 + t4.2)) HL4) (it4 (t4.1, (qll .i64 (t4.2 - (1 : Int)))) HL4)) (k x2 HL4)
def qa3.j2 (x0 : Sl) (x1 : Int) (x2 : Int) (H : AH) (k : Int → AH → Prop) (x14 : Bool) : Prop :=
 bcase x14 (k (-1 : Int) H) (loopT (qa3.l1 x0 x1 x2 k) (((0 : Int), (qll .i64 (((x0.n : Nat) : Int) - (1 : Int)))) : Int × Int) H)
def qa3.b (x0 : Sl) (x1 : Int) (x2 : Int) (H : AH) (k : Int → AH → Prop) : Prop :=
 bcase (decide ((x2 : Int) < (0 : Int))) (qa3.j2 x0 x1 x2 H k true) (qa3.j2 x0 x1 x2 H k (decide ((x2 : Int) ≥ x1)))
def qa3.ann : Ann := { keep := fun r => match r with | 4 => [(6, .int .i64), (7, .int .i64)] | _ => [], ord := fun r => match r with  | _ => [] }
theorem qa3.link {x0 : Sl} {x1 : Int} {x2 : Int} {H : AH} {k : Int → AH → Prop} (h : qa3.b x0 x1 x2 H k) : qa3 x0 x1 x2 H k := lk1 pan hT hm Tryz.func175 (by kernel_rfl) (A := qa3.ann) (by kernel_rfl) (by simp) (by kernel_rfl) h
def qaP.j1 (x0 : Option Addr) (x1 : Int) (H : AH) (k : Int → Sl → Int → AH → Prop) (x22 : Bool) : Prop :=
 bcase x22 (k (0 : Int) ⟨none, 0, 0⟩ (1 : Int) H) (qU x0 H fun s25a n25b H25 => onPtr x0 fun a30 => elI .i64 (AH.cell? H25 (qlm a30 1)) fun n32 => qa3 s25a n32 x1 H25 fun n34 H34 => k n34 s25a n25b H34)
def qaP.b (x0 : Option Addr) (x1 : Int) (H : AH) (k : Int → Sl → Int → AH → Prop) : Prop :=
 bcase (ql1 x0) (qaP.j1 x0 x1 H k true) (bcase (decide ((x1 : Int) < (0 : Int))) (qaP.j1 x0 x1 H k true) (onPtr x0 fun a18 => elI .i64 (AH.cell? H (qlm a18 1)) fun n20 => qaP.j1 x0 x1 H k (decide ((x1 : Int) ≥ n20))))
theorem qaP.link {x0 : Option Addr} {x1 : Int} {H : AH} {k : Int → Sl → Int → AH → Prop} (h : qaP.b x0 x1 H k) : qaP x0 x1 H k := lk3 pan hT hm Tryz.func151 (by kernel_rfl) (A := ann0) (by kernel_rfl) (by simp) (by simp) (by simp) (by kernel_rfl) h
def qby.b (x0 : Option Addr) (x1 : Int) (H : AH) (k : Bool → AH → Prop) : Prop :=
 bcase (decide ((x1 : Int) ≥ (0 : Int))) (qay x0 H fun n10 H10 => k (decide ((x1 : Int) < n10)) H10) (k false H)
theorem qby.link {x0 : Option Addr} {x1 : Int} {H : AH} {k : Bool → AH → Prop} (h : qby.b x0 x1 H k) : qby x0 x1 H k := lk1 pan hT hm Tryz.func176 (by kernel_rfl) (A := ann0) (by kernel_rfl) (by simp) (by kernel_rfl) h
def qbY.b (x0 : Option Addr) (x1 : Int) (H : AH) (k : List Value → Int → AH → Prop) : Prop :=
 newC H ⟨[(qlk .u64 (0 : Int)), (qlk .u64 (0 : Int)), (qlk .u64 (0 : Int)), (qlk .u64 (0 : Int)), (qlk .u64 (0 : Int)), (qlk .u64 (0 : Int)), (qlk .u64 (0 : Int)), (qlk .u64 (0 : Int))], .rw, 0⟩ fun o4 H4 => qby x0 x1 H4 fun b9 H9 => bcase (!b9) ((qly [(qlk .u64 (0 : Int)), (qlk .u64 (0 : Int)), (qlk .u64 (0 : Int)), (qlk .u64 (0 : Int)), (qlk .u64 (0 : Int)), (qlk .u64 (0 : Int)), (qlk .u64 (0 : Int)), (qlk .u64 (0 : Int))] = 8 ∧ ql0 [(qlk .u64 (0 : Int)), (qlk .u64 (0 : Int)), (qlk .u64 (0 : Int)), (qlk .u64 (0 : Int)), (qlk .u64 (0 : Int)), (qlk .u64 (0 : Int)), (qlk .u64 (0 : Int)), (qlk .u64 (0 : Int))] qq = true) ∧ stC H9 ⟨o4, 0, none⟩ [(qlk .u64 (0 : Int)), (qlk .u64 (0 : Int)), (qlk .u64 (0 : Int)), (qlk .u64 (0 : Int)), (qlk .u64 (0 : Int)), (qlk .u64 (0 : Int)), (qlk .u64 (0 : Int)), (qlk .u64 (0 : Int))] fun Hs2 => ldA Hs2 ⟨o4, 0, none⟩ 8 fun r0 => k r0 (1 : Int) Hs2) (onPtr x0 fun a14 => elB (AH.cell? H9 (qlm a14 39)) fun b16 => bcase b16 ((qly [(qlk .u64 (0 : Int)), (qlk .u64 (0 : Int)), (qlk .u64 (0 : Int)), (qlk .u64 (0 : Int)), (qlk .u64 (0 : Int)), (qlk .u64 (0 : Int)), (qlk .u64 (0 : Int)), (qlk .u64 (0 : Int))] = 8 ∧ ql0 [(qlk .u64 (0 : Int)), (qlk .u64 (0 : Int)), (qlk .u64 (0 : Int)), (qlk .u64 (0 : Int)), (qlk .u64 (0 : Int)), (qlk .u64 (0 : Int)), (qlk .u64 (0 : Int)), (qlk .u64 (0 : Int))] qq = true) ∧ stC H9 ⟨o4, 0, none⟩ [(qlk .u64 (0 : Int)), (qlk .u64 (0 : Int)), (qlk .u64 (0 : Int)), (qlk .u64 (0 : Int)), (qlk .u64 (0 : Int)), (qlk .u64 (0 : Int)), (qlk .u64 (0 : Int)), (qlk .u64 (0 : Int))] fun Hs4 => ldA Hs4 ⟨o4, 0, none⟩ 8 fun r0 => k r0 (2 : Int) Hs4) (onPtr x0 fun a19 => elL (AH.cell? H9 (qlm a19 0)) fun s21 => (0 ≤ x1 ∧ x1 < ((s21.n : Nat) : Int)) ∧ onPtr s21.a fun a23 => ldA H9 (qlm (qlm a23 (qlr x1 * 10)) 0) 8 fun c25 => (qly c25 = 8 ∧ ql0 c25 qq = true) ∧ stC H9 ⟨o4, 0, none⟩ c25 fun Hs6 => ldA Hs6 ⟨o4, 0, none⟩ 8 fun r0 => k r0 (0 : Int) Hs6))
theorem qbY.link {x0 : Option Addr} {x1 : Int} {H : AH} {k : List Value → Int → AH → Prop} (h : qbY.b x0 x1 H k) : qbY x0 x1 H k := lk2 pan hT hm Tryz.func152 (by kernel_rfl) (A := ann0) (by kernel_rfl) (by simp) (by simp) (by kernel_rfl) h
def qb5.b (x0 : Option Addr) (x1 : Int) (H : AH) (k : List Value → Int → AH → Prop) : Prop :=
 newC H ⟨[(qlk .u64 (0 : Int)), (qlk .u64 (0 : Int)), (qlk .u64 (0 : Int)), (qlk .u64 (0 : Int)), (qlk .u64 (0 : Int)), (qlk .u64 (0 : Int)), (qlk .u64 (0 : Int)), (qlk .u64 (0 : Int))], .rw, 0⟩ fun o4 H4 => qaP x0 x1 H4 fun n12a s12b n12c H12 => bcase ((n12c : Int) != (0 : Int)) ((qly [(qlk .u64 (0 : Int)), (qlk .u64 (0 : Int)), (qlk .u64 (0 : Int)), (qlk .u64 (0 : Int)), (qlk .u64 (0 : Int)), (qlk .u64 (0 : Int)), (qlk .u64 (0 : Int)), (qlk .u64 (0 : Int))] = 8 ∧ ql0 [(qlk .u64 (0 : Int)), (qlk .u64 (0 : Int)), (qlk .u64 (0 : Int)), (qlk .u64 (0 : Int)), (qlk .u64 (0 : Int)), (qlk .u64 (0 : Int)), (qlk .u64 (0 : Int)), (qlk .u64 (0 : Int))] qq = true) ∧ stC H12 ⟨o4, 0, none⟩ [(qlk .u64 (0 : Int)), (qlk .u64 (0 : Int)), (qlk .u64 (0 : Int)), (qlk .u64 (0 : Int)), (qlk .u64 (0 : Int)), (qlk .u64 (0 : Int)), (qlk .u64 (0 : Int)), (qlk .u64 (0 : Int))] fun Hs2 => ldA Hs2 ⟨o4, 0, none⟩ 8 fun r0 => k r0 n12c Hs2) (onPtr x0 fun a21 => elP (AH.cell? H12 (qlm a21 0)) fun p23 => qbY p23 n12a H12 fun c25a n25b H25 => (qly c25a = 8 ∧ ql0 c25a qq = true) ∧ stC H25 ⟨o4, 0, none⟩ c25a fun Hs4 => ldA Hs4 ⟨o4, 0, none⟩ 8 fun r0 => k r0 n25b Hs4)
theorem qb5.link {x0 : Option Addr} {x1 : Int} {H : AH} {k : List Value → Int → AH → Prop} (h : qb5.b x0 x1 H k) : qb5 x0 x1 H k := lk2 pan hT hm Tryz.func129 (by kernel_rfl) (A := ann0) (by kernel_rfl) (by simp) (by simp) (by kernel_rfl) h
def qbo.b (x0 : Option Addr) (x1 : Int) (H : AH) (k : List Value → Int → AH → Prop) : Prop :=
 newC H ⟨[(qlk .u64 (0 : Int)), (qlk .u64 (0 : Int)), (qlk .u64 (0 : Int)), (qlk .u64 (0 : Int)), (qlk .u64 (0 : Int)), (qlk .u64 (0 : Int)), (qlk .u64 (0 : Int)), (qlk .u64 (0 : Int))], .rw, 0⟩ fun o4 H4 => qbp x0 x1 H4 fun n9 H9 => bcase ((n9 : Int) != (0 : Int)) ((qly [(qlk .u64 (0 : Int)), (qlk .u64 (0 : Int)), (qlk .u64 (0 : Int)), (qlk .u64 (0 : Int)), (qlk .u64 (0 : Int)), (qlk .u64 (0 : Int)), (qlk .u64 (0 : Int)), (qlk .u64 (0 : Int))] = 8 ∧ ql0 [(qlk .u64 (0 : Int)), (qlk .u64 (0 : Int)), (qlk .u64 (0 : Int)), (qlk .u64 (0 : Int)), (qlk .u64 (0 : Int)), (qlk .u64 (0 : Int)), (qlk .u64 (0 : Int)), (qlk .u64 (0 : Int))] qq = true) ∧ stC H9 ⟨o4, 0, none⟩ [(qlk .u64 (0 : Int)), (qlk .u64 (0 : Int)), (qlk .u64 (0 : Int)), (qlk .u64 (0 : Int)), (qlk .u64 (0 : Int)), (qlk .u64 (0 : Int)), (qlk .u64 (0 : Int)), (qlk .u64 (0 : Int))] fun Hs2 => ldA Hs2 ⟨o4, 0, none⟩ 8 fun r0 => k r0 n9 Hs2) (onPtr x0 fun a15 => elP (AH.cell? H9 (qlm a15 1)) fun p17 => onPtr x0 fun a19 => elI .i64 (AH.cell? H9 (qlm a19 2)) fun n21 => qbL x0 H9 fun n23 H23 => AH.cell? H23 (qlm a19 2) = some (qlk .i64 n21) ∧ AH.cell? H23 (qlm a15 1) = some (qls p17) ∧ qca n21 n23 x1 H23 fun n25 H25 => AH.cell? H25 (qlm a15 1) = some (qls p17) ∧ qb5 p17 n25 H25 fun c26a n26b H26 => (qly c26a = 8 ∧ ql0 c26a qq = true) ∧ stC H26 ⟨o4, 0, none⟩ c26a fun Hs4 => ldA Hs4 ⟨o4, 0, none⟩ 8 fun r0 => k r0 n26b Hs4)
def qbo.ann : Ann := { keep := fun r => match r with  | _ => [], ord := fun r => match r with | 4 => [0, 1, 2, 3, 4, 5, 6, 7, 8, 10, 9, 11, 12, 13, 14, 15, 16] | _ => [] }
theorem qbo.link {x0 : Option Addr} {x1 : Int} {H : AH} {k : List Value → Int → AH → Prop} (h : qbo.b x0 x1 H k) : qbo x0 x1 H k := lk2 pan hT hm Tryz.func85 (by kernel_rfl) (A := qbo.ann) (by kernel_rfl) (by simp) (by simp) (by kernel_rfl) h
def qbD.b (x0 : Sl) (x1 : Int) (H : AH) (k : List Value → AH → Prop) : Prop :=
 newC H ⟨[(qlk .u64 (0 : Int)), (qlk .u64 (0 : Int)), (qlk .u64 (0 : Int)), (qlk .u64 (0 : Int)), (qlk .u64 (0 : Int)), (qlk .u64 (0 : Int)), (qlk .u64 (0 : Int)), (qlk .u64 (0 : Int))], .rw, 0⟩ fun o4 H4 => newC H4 ⟨[(qlk .u64 (0 : Int)), (qlk .u64 (0 : Int)), (qlk .u64 (0 : Int)), (qlk .u64 (0 : Int)), (qlk .u64 (0 : Int)), (qlk .u64 (0 : Int)), (qlk .u64 (0 : Int)), (qlk .u64 (0 : Int))], .rw, 0⟩ fun o5 H5 => (0 ≤ (qll .i64 (x1 * (8 : Int))) ∧ (qll .i64 (x1 * (8 : Int))) ≤ ((x0.n : Nat) : Int)) ∧ copyC 1 H5 ⟨(some ⟨o5, 0, none⟩), 8, 0⟩ ⟨(Option.map (fun x => qlm x (qlr (qll .i64 (x1 * (8 : Int))) * 1)) x0.a), (x0.n - qlr (qll .i64 (x1 * (8 : Int)))), 0⟩ fun n11 H11 => ldA H11 ⟨o5, 0, none⟩ 8 fun c12 => (qly c12 = 8 ∧ ql0 c12 qq = true) ∧ stC H11 ⟨o4, 0, none⟩ c12 fun Hs2 => ldA Hs2 ⟨o4, 0, none⟩ 8 fun r0 => k r0 Hs2
def qbD.ann : Ann := { keep := fun r => match r with  | _ => [], ord := fun r => match r with | 2 => [0, 1, 2, 3, 4, 5] | _ => [] }
theorem qbD.link {x0 : Sl} {x1 : Int} {H : AH} {k : List Value → AH → Prop} (h : qbD.b x0 x1 H k) : qbD x0 x1 H k := lk1 pan hT hm Tryz.func86 (by kernel_rfl) (A := qbD.ann) (by kernel_rfl) (by simp) (by kernel_rfl) h
def qcY.b (x0 : Int) (x1 : Int) (H : AH) (k : Int → Int → AH → Prop) : Prop :=
 gap_Gap x0 x1 H fun n8 H8 => bcase ((n8 : Int) == (-1 : Int)) (k (-1 : Int) (-1 : Int) H8) (bcase ((n8 : Int) == (0 : Int)) (k x0 (0 : Int) H8) (k (qll .i64 (n8 - (1 : Int))) n8 H8))
theorem qcY.link {x0 : Int} {x1 : Int} {H : AH} {k : Int → Int → AH → Prop} (h : qcY.b x0 x1 H k) : qcY x0 x1 H k := lk2 pan hT hm Tryz.func156 (by kernel_rfl) (A := ann0) (by kernel_rfl) (by simp) (by simp) (by kernel_rfl) h
def qbe.b (x0 : Option Addr) (H : AH) (k : Int → AH → Prop) : Prop :=
 onPtr x0 fun a4 => elI .i64 (AH.cell? H (qlm a4 36)) fun n6 => onPtr x0 fun a8 => stC H (qlm a8 36) [(qlk .i64 (qll .i64 (n6 + (1 : Int))))] fun Hs2 => onPtr x0 fun a12 => elI .i64 (AH.cell? Hs2 (qlm a12 37)) fun n14 => bcase ((n14 : Int) == (0 : Int)) (onPtr x0 fun a17 => stC Hs2 (qlm a17 39) [(qlW true)] fun Hs4 => onPtr x0 fun a20 => elI .i64 (AH.cell? Hs4 (qlm a20 38)) fun n22 => k n22 Hs4) (onPtr x0 fun a25 => elI .i64 (AH.cell? Hs2 (qlm a25 37)) fun n27 => bcase (decide ((n27 : Int) > (0 : Int))) (onPtr x0 fun a30 => elI .i64 (AH.cell? Hs2 (qlm a30 37)) fun n32 => onPtr x0 fun a34 => stC Hs2 (qlm a34 37) [(qlk .i64 (qll .i64 (n32 - (1 : Int))))] fun Hs6 => k (-1 : Int) Hs6) (k (-1 : Int) Hs2))
theorem qbe.link {x0 : Option Addr} {H : AH} {k : Int → AH → Prop} (h : qbe.b x0 H k) : qbe x0 H k := lk1 pan hT hm Tryz.func91 (by kernel_rfl) (A := ann0) (by kernel_rfl) (by simp) (by kernel_rfl) h
def qb0.j1 (k : List Value → AH → Prop) (o3 : Nat) (o6 : Nat) (HL2 : AH) : Prop :=
 ldA HL2 ⟨o3, 0, none⟩ 8 fun c23 => (qly c23 = 8 ∧ ql0 c23 qq = true) ∧ stC HL2 ⟨o6, 0, none⟩ c23 fun Hs2 => ldA Hs2 ⟨o6, 0, none⟩ 8 fun r0 => k r0 Hs2
def qb0.l2 (x2 : Int) (k : List Value → AH → Prop) (o3 : Nat) (o6 : Nat) (c9 : List Value) (t2 : Int) (HL2 : AH) (it2 : (Int) → AH → Prop) : Prop :=
 bcase (decide ((t2 : Int) < (8 : Int))) ((0 ≤ t2 ∧ t2 < ((8 : Nat) : Int)) ∧ elI .u64 ((c9)[(qlr t2 * 1)]?) fun n13 => (0 : Int) ≤ t2 ∧ bcase (((andI .i64 (shrI .i64 x2 t2) (1 : Int)) : Int) == (1 : Int)) ((0 ≤ t2 ∧ t2 < ((8 : Nat) : Int)) ∧ stC HL2 (qlm ⟨o3, 0, none⟩ (qlr t2 * 1)) [(qlk .u64 n13)] fun Hs4 => it2 (qll .i64 (t2 + (1 : Int))) Hs4) (it2 (qll .i64 (t2 + (1 : Int))) HL2)) (qb0.j1 k o3 o6 HL2)
def qb0.b (x0 : List Value) (x1 : List Value) (x2 : Int) (H : AH) (k : List Value → AH → Prop) : Prop :=
 newC H ⟨x0, .rw, 0⟩ fun o3 H3 => newC H3 ⟨x1, .rw, 0⟩ fun o4 H4 => newC H4 ⟨[(qlk .u64 (0 : Int)), (qlk .u64 (0 : Int)), (qlk .u64 (0 : Int)), (qlk .u64 (0 : Int)), (qlk .u64 (0 : Int)), (qlk .u64 (0 : Int)), (qlk .u64 (0 : Int)), (qlk .u64 (0 : Int))], .rw, 0⟩ fun o6 H6 => ldA H6 ⟨o4, 0, none⟩ 8 fun c9 => loopT (qb0.l2 x2 k o3 o6 c9) (((0 : Int)) : Int) H6
def qb0.ann : Ann := { keep := fun r => match r with | 2 => [(10, .int .i64)] | _ => [], ord := fun r => match r with  | _ => [] }
theorem qb0.link {x0 : List Value} {x1 : List Value} {x2 : Int} {H : AH} {k : List Value → AH → Prop} (h : qb0.b x0 x1 x2 H k) : qb0 x0 x1 x2 H k := lk1 pan hT hm Tryz.func177 (by kernel_rfl) (A := qb0.ann) (by kernel_rfl) (by simp) (by kernel_rfl) h
def qa4.b (x0 : Option Addr) (x1 : Bool) (H : AH) (k : Int → AH → Prop) : Prop :=
 onPtr x0 fun a7 => elB (AH.cell? H (qlm a7 39)) fun b9 => bcase b9 (k (2 : Int) H) (bcase x1 (k (3 : Int) H) (k (0 : Int) H))
theorem qa4.link {x0 : Option Addr} {x1 : Bool} {H : AH} {k : Int → AH → Prop} (h : qa4.b x0 x1 H k) : qa4 x0 x1 H k := lk1 pan hT hm Tryz.func92 (by kernel_rfl) (A := ann0) (by kernel_rfl) (by simp) (by kernel_rfl) h
def qak.j1 (x0 : Option Addr) (k : Int → AH → Prop) (x9 : Bool) (Hj : AH) : Prop :=
 qa4 x0 x9 Hj fun n65 H65 => k n65 H65
def qak.j2 (x0 : Option Addr) (x1 : Int) (k : Int → AH → Prop) (o5 : Nat) (H21 : AH) (n21 : Int) (a27 : Addr) (x9 : Bool) : Prop :=
 bcase (!x9) (ldA H21 (qlm (qlm a27 (qlr x1 * 10)) 0) 8 fun c50 => ldA H21 ⟨o5, 0, none⟩ 8 fun c51 => qb0 c50 c51 n21 H21 fun c53 H53 => (qly c53 = 8 ∧ ql0 c53 qq = true) ∧ stC H53 (qlm (qlm a27 (qlr x1 * 10)) 0) c53 fun Hs2 => elI .i64 (AH.cell? Hs2 (qlm (qlm a27 (qlr x1 * 10)) 8)) fun n59 => stC Hs2 (qlm (qlm a27 (qlr x1 * 10)) 8) [(qlk .i64 (qll .i64 (n59 + (1 : Int))))] fun Hs4 => qak.j1 x0 k x9 Hs4) (qak.j1 x0 k x9 H21)
def qak.b (x0 : Option Addr) (x1 : Int) (x2 : List Value) (H : AH) (k : Int → AH → Prop) : Prop :=
 newC H ⟨x2, .rw, 0⟩ fun o5 H5 => qby x0 x1 H5 fun b13 H13 => bcase (!b13) (k (1 : Int) H13) (onPtr x0 fun a17 => elB (AH.cell? H13 (qlm a17 39)) fun b19 => bcase b19 (k (2 : Int) H13) (qbe x0 H13 fun n21 H21 => onPtr x0 fun a23 => elL (AH.cell? H21 (qlm a23 0)) fun s25 => (0 ≤ x1 ∧ x1 < ((s25.n : Nat) : Int)) ∧ onPtr s25.a fun a27 => elI .i64 (AH.cell? H21 (qlm (qlm a27 (qlr x1 * 10)) 9)) fun n31 => bcase (decide ((n31 : Int) ≥ (0 : Int))) (elI .i64 (AH.cell? H21 (qlm (qlm a27 (qlr x1 * 10)) 8)) fun n37 => elI .i64 (AH.cell? H21 (qlm (qlm a27 (qlr x1 * 10)) 9)) fun n41 => qak.j2 x0 x1 k o5 H21 n21 a27 (decide ((n37 : Int) ≥ n41))) (qak.j2 x0 x1 k o5 H21 n21 a27 false)))
def qak.ann : Ann := { keep := fun r => match r with  | _ => [], ord := fun r => match r with | 7 => [0, 1, 2, 3, 4, 5, 6, 7, 8, 9, 10, 11, 12, 13, 14, 15, 16] | 9 => [0, 1, 2, 3, 4, 5, 6, 7, 8, 9, 10] | _ => [] }
theorem qak.link {x0 : Option Addr} {x1 : Int} {x2 : List Value} {H : AH} {k : Int → AH → Prop} (h : qak.b x0 x1 x2 H k) : qak x0 x1 x2 H k := lk1 pan hT hm Tryz.func157 (by kernel_rfl) (A := qak.ann) (by kernel_rfl) (by simp) (by kernel_rfl) h
def qbR.l1 (x0 : Sl) (k : Int → AH → Prop) (t2 : Int × Int) (HL2 : AH) (it2 : (Int × Int) → AH → Prop) : Prop :=
 bcase (decide ((t2.2 : Int) < ((x0.n : Nat) : Int))) ((0 ≤ t2.2 ∧ t2.2 < ((x0.n : Nat) : Int)) ∧ onPtr x0.a fun a10 => elI .u64 (AH.cell? HL2 (qlm a10 (qlr t2.2 * 1))) fun n11 => bcase ((n11 : Int) == (0 : Int)) (k t2.2 HL2) (it2 (t2.1, (qll .i64 (t2.2 + (1 : Int)))) HL2)) (k (-1 : Int) HL2)
def qbR.b (x0 : Sl) (H : AH) (k : Int → AH → Prop) : Prop :=
 loopT (qbR.l1 x0 k) (((0 : Int), (0 : Int)) : Int × Int) H
def qbR.ann : Ann := { keep := fun r => match r with | 2 => [(2, .int .i64), (7, .int .i64)] | _ => [], ord := fun r => match r with  | _ => [] }
theorem qbR.link {x0 : Sl} {H : AH} {k : Int → AH → Prop} (h : qbR.b x0 H k) : qbR x0 H k := lk1 pan hT hm Tryz.func158 (by kernel_rfl) (A := qbR.ann) (by kernel_rfl) (by simp) (by kernel_rfl) h
def qN.j1 (x0 : Option Addr) (k : Int → AH → Prop) (Hj : AH) : Prop :=
 qa4 x0 false Hj fun n28 H28 => k n28 H28
def qN.b (x0 : Option Addr) (x1 : Int) (x2 : Int) (H : AH) (k : Int → AH → Prop) : Prop :=
 qa6 x0 x1 H fun b10 H10 => bcase (!b10) (k (1 : Int) H10) (onPtr x0 fun a14 => elB (AH.cell? H10 (qlm a14 39)) fun b16 => bcase b16 (k (2 : Int) H10) (qbe x0 H10 fun n18 H18 => bcase (((andI .i64 n18 (1 : Int)) : Int) == (1 : Int)) (onPtr x0 fun a24 => (0 ≤ x1 ∧ x1 < ((35 : Nat) : Int)) ∧ stC H18 (qlm (qlm a24 1) (qlr x1 * 1)) [(qlk .u64 x2)] fun Hs2 => qN.j1 x0 k Hs2) (qN.j1 x0 k H18)))
theorem qN.link {x0 : Option Addr} {x1 : Int} {x2 : Int} {H : AH} {k : Int → AH → Prop} (h : qN.b x0 x1 x2 H k) : qN x0 x1 x2 H k := lk1 pan hT hm Tryz.func41 (by kernel_rfl) (A := ann0) (by kernel_rfl) (by simp) (by kernel_rfl) h
def qaX.l1 (x0 : Option Addr) (x1 : Int) (k : Int → AH → Prop) (o5 : Nat) (t11 : Int × Int) (HL11 : AH) (it11 : (Int × Int) → AH → Prop) : Prop :=
 onPtr x0 fun a43 => elI .i64 (AH.cell? HL11 (qlm a43 2)) fun n45 => bcase (decide ((t11.2 : Int) < n45)) (onPtr x0 fun a53 => elP (AH.cell? HL11 (qlm a53 0)) fun p55 => onPtr x0 fun a57 => elI .i64 (AH.cell? HL11 (qlm a57 1)) fun n59 => ldA HL11 ⟨o5, 0, none⟩ 8 fun c62 => qak p55 (qll .i64 (n59 + t11.2)) c62 HL11 fun n63 H63 => bcase ((n63 : Int) == (0 : Int)) (onPtr x0 fun a69 => elP (AH.cell? H63 (qlm a69 0)) fun p71 => qN p71 (qll .i64 ((3 : Int) + t11.2)) (qll .u64 ((qll .u64 x1) + (1 : Int))) H63 fun n75 H75 => k n75 H75) (bcase ((n63 : Int) == (3 : Int)) (onPtr x0 fun a79 => elI .i64 (AH.cell? H63 (qlm a79 1)) fun n81 => qcn n81 H63 fun n82 H82 => onPtr x0 fun a84 => elP (AH.cell? H82 (qlm a84 0)) fun p86 => qN p86 (qll .i64 ((3 : Int) + t11.2)) n82 H82 fun n90 H90 => bcase ((n90 : Int) != (0 : Int)) (k n90 H90) (it11 (t11.1, (qll .i64 (t11.2 + (1 : Int)))) H90)) (k n63 H63))) (k (3 : Int) HL11)
def qaX.b (x0 : Option Addr) (x1 : Int) (x2 : List Value) (H : AH) (k : Int → AH → Prop) : Prop :=
 newC H ⟨x2, .rw, 0⟩ fun o5 H5 => qaP x0 x1 H5 fun n19a s19b n19c H19 => bcase ((n19c : Int) != (0 : Int)) (k n19c H19) (onPtr x0 fun a27 => elP (AH.cell? H19 (qlm a27 0)) fun p29 => ldA H19 ⟨o5, 0, none⟩ 8 fun c31 => qak p29 n19a c31 H19 fun n32 H32 => bcase ((n32 : Int) != (3 : Int)) (k n32 H32) (qbR s19b H32 fun n37 H37 => bcase (decide ((n37 : Int) < (0 : Int))) (k (3 : Int) H37) (loopT (qaX.l1 x0 x1 k o5) (((0 : Int), n37) : Int × Int) H37)))
def qaX.ann : Ann := { keep := fun r => match r with | 11 => [(6, .int .i64), (12, .int .i64)] | _ => [], ord := fun r => match r with | 4 => [0, 1, 2, 3, 4, 5, 6, 7] | 14 => [0, 1, 2, 3, 4, 5, 6, 7, 8, 9, 10, 11, 12] | _ => [] }
theorem qaX.link {x0 : Option Addr} {x1 : Int} {x2 : List Value} {H : AH} {k : Int → AH → Prop} (h : qaX.b x0 x1 x2 H k) : qaX x0 x1 x2 H k := lk1 pan hT hm Tryz.func132 (by kernel_rfl) (A := qaX.ann) (by kernel_rfl) (by simp) (by kernel_rfl) h
def qbX.b (x0 : Option Addr) (H : AH) (k : Int → AH → Prop) : Prop :=
 qbL x0 H fun n10 H10 => onPtr x0 fun a13 => elI .i64 (AH.cell? H10 (qlm a13 2)) fun n15 => qcY n15 n10 H10 fun n17a n17b H17 => onPtr x0 fun a22 => elP (AH.cell? H17 (qlm a22 1)) fun p24 => qb5 p24 n17a H17 fun c26a n26b H26 => newC H26 ⟨[(qlk .u64 (0 : Int)), (qlk .u64 (0 : Int)), (qlk .u64 (0 : Int)), (qlk .u64 (0 : Int)), (qlk .u64 (0 : Int)), (qlk .u64 (0 : Int)), (qlk .u64 (0 : Int)), (qlk .u64 (0 : Int))], .rw, 0⟩ fun o6 H6 => (qly c26a = 8 ∧ ql0 c26a qq = true) ∧ stC H6 ⟨o6, 0, none⟩ c26a fun Hs2 => bcase ((n26b : Int) != (0 : Int)) (k n26b Hs2) (onPtr x0 fun a33 => elP (AH.cell? Hs2 (qlm a33 1)) fun p35 => ldA Hs2 ⟨o6, 0, none⟩ 8 fun c37 => qaX p35 n17b c37 Hs2 fun n38 H38 => bcase ((n38 : Int) != (0 : Int)) (k n38 H38) (onPtr x0 fun a43 => elP (AH.cell? H38 (qlm a43 0)) fun p45 => qN p45 (0 : Int) (qll .u64 ((qll .u64 n10) + (1 : Int))) H38 fun n49 H49 => k n49 H49))
def qbX.ann : Ann := { keep := fun r => match r with  | _ => [], ord := fun r => match r with | 6 => [0, 1, 2, 3, 4, 5, 6, 7] | _ => [] }
theorem qbX.link {x0 : Option Addr} {H : AH} {k : Int → AH → Prop} (h : qbX.b x0 H k) : qbX x0 H k := lk1 pan hT hm Tryz.func131 (by kernel_rfl) (A := qbX.ann) (by kernel_rfl) (by simp) (by kernel_rfl) h
def qa1.j1 (x0 : Option Addr) (x1 : Int) (k : Int → AH → Prop) (o5 : Nat) (Hj : AH) : Prop :=
 onPtr x0 fun a40 => elP (AH.cell? Hj (qlm a40 1)) fun p42 => onPtr x0 fun a44 => elI .i64 (AH.cell? Hj (qlm a44 2)) fun n46 => ldA Hj ⟨o5, 0, none⟩ 8 fun c51 => qbL x0 Hj fun n48 H48 => AH.row? H48 ⟨o5, 0, none⟩ 8 = some c51 ∧ AH.cell? H48 (qlm a44 2) = some (qlk .i64 n46) ∧ AH.cell? H48 (qlm a40 1) = some (qls p42) ∧ qca n46 n48 x1 H48 fun n50 H50 => AH.row? H50 ⟨o5, 0, none⟩ 8 = some c51 ∧ AH.cell? H50 (qlm a40 1) = some (qls p42) ∧ qaX p42 n50 c51 H50 fun n52 H52 => k n52 H52
def qa1.b (x0 : Option Addr) (x1 : Int) (x2 : List Value) (H : AH) (k : Int → AH → Prop) : Prop :=
 newC H ⟨x2, .rw, 0⟩ fun o5 H5 => qbp x0 x1 H5 fun n11 H11 => bcase ((n11 : Int) != (0 : Int)) (k n11 H11) (onPtr x0 fun a16 => elI .i64 (AH.cell? H11 (qlm a16 4)) fun n18 => onPtr x0 fun a20 => stC H11 (qlm a20 4) [(qlk .i64 (qll .i64 (n18 + (1 : Int))))] fun Hs2 => onPtr x0 fun a23 => elI .i64 (AH.cell? Hs2 (qlm a23 4)) fun n25 => onPtr x0 fun a27 => elI .i64 (AH.cell? Hs2 (qlm a27 3)) fun n29 => bcase ((n25 : Int) == n29) (onPtr x0 fun a32 => stC Hs2 (qlm a32 4) [(qlk .i64 (0 : Int))] fun Hs4 => qbX x0 Hs4 fun n35 H35 => bcase ((n35 : Int) != (0 : Int)) (k n35 H35) (qa1.j1 x0 x1 k o5 H35)) (qa1.j1 x0 x1 k o5 Hs2))
def qa1.ann : Ann := { keep := fun r => match r with  | _ => [], ord := fun r => match r with | 5 => [0, 1, 2, 3, 4, 5, 6, 7, 8] | 10 => [0, 1, 2, 3, 4, 5, 6, 7, 8, 10, 12, 9, 11, 13, 14] | _ => [] }
theorem qa1.link {x0 : Option Addr} {x1 : Int} {x2 : List Value} {H : AH} {k : Int → AH → Prop} (h : qa1.b x0 x1 x2 H k) : qa1 x0 x1 x2 H k := lk1 pan hT hm Tryz.func87 (by kernel_rfl) (A := qa1.ann) (by kernel_rfl) (by simp) (by kernel_rfl) h
def qW.j1 (k : Int → AH → Prop) (t14 : Int × Int) (it14 : (Int × Int) → AH → Prop) (x13 : Int) (Hj : AH) : Prop :=
 bcase ((x13 : Int) != (0 : Int)) (k x13 Hj) (it14 (t14.1, (qll .i64 (t14.2 + (1 : Int)))) Hj)
def qW.j2 (k : Int → AH → Prop) (o3 : Nat) (p34 : Option Addr) (s37 : Sl) (t14 : Int × Int) (it14 : (Int × Int) → AH → Prop) (n48b : Int) (x59 : Bool) (Hj : AH) : Prop :=
 bcase x59 (ldA Hj ⟨o3, 0, none⟩ 4 fun c61 => qbQ c61 t14.2 Hj fun n63 H63 => qbD s37 t14.2 H63 fun c66 H66 => qa1 p34 n63 c66 H66 fun n67 H67 => qW.j1 k t14 it14 n67 H67) (qW.j1 k t14 it14 n48b Hj)
def qW.l3 (k : Int → AH → Prop) (o3 : Nat) (p34 : Option Addr) (s37 : Sl) (n39 : Int) (t14 : Int × Int) (HL14 : AH) (it14 : (Int × Int) → AH → Prop) : Prop :=
 bcase (decide ((t14.2 : Int) < n39)) (ldA HL14 ⟨o3, 0, none⟩ 4 fun c45 => qbQ c45 t14.2 HL14 fun n47 H47 => qbo p34 n47 H47 fun c48a n48b H48 => newC H48 ⟨[(qlk .u64 (0 : Int)), (qlk .u64 (0 : Int)), (qlk .u64 (0 : Int)), (qlk .u64 (0 : Int)), (qlk .u64 (0 : Int)), (qlk .u64 (0 : Int)), (qlk .u64 (0 : Int)), (qlk .u64 (0 : Int))], .rw, 0⟩ fun o12 H12 => (qly c48a = 8 ∧ ql0 c48a qq = true) ∧ stC H12 ⟨o12, 0, none⟩ c48a fun Hs2 => bcase ((n48b : Int) == (0 : Int)) (ldA Hs2 ⟨o12, 0, none⟩ 8 fun c54 => qbD s37 t14.2 Hs2 fun c57 H57 => AH.row? H57 ⟨o12, 0, none⟩ 8 = some c54 ∧ elO (eqCells (List.replicate 8 (K.int .u64)) c54 c57) fun e58 => qW.j2 k o3 p34 s37 t14 it14 n48b (!e58) H57) (qW.j2 k o3 p34 s37 t14 it14 n48b false Hs2)) (k (0 : Int) HL14)
def qW.j4 (x0 : Option Addr) (k : Int → AH → Prop) (o3 : Nat) (t5 : Int × Int) (HL5 : AH) : Prop :=
 ldA HL5 ⟨o3, 0, none⟩ 4 fun c33 => qb7 x0 c33 HL5 fun p34 H34 => ldA H34 ⟨o3, 0, none⟩ 4 fun c35 => qcG c35 H34 fun n36 H36 => qcs n36 H36 fun s37 H37 => elI .i64 (AH.cell? H37 (qlm ⟨o3, 0, none⟩ 0)) fun n39 => loopT (qW.l3 k o3 p34 s37 n39) ((t5.1, (0 : Int)) : Int × Int) H37
def qW.l5 (x0 : Option Addr) (k : Int → AH → Prop) (o3 : Nat) (t5 : Int × Int) (HL5 : AH) (it5 : (Int × Int) → AH → Prop) : Prop :=
 bcase (decide ((t5.2 : Int) < (35 : Int))) (qS x0 t5.2 HL5 fun n26a n26b H26 => bcase ((n26a : Int) != (0 : Int)) (k (5 : Int) H26) (it5 (t5.1, (qll .i64 (t5.2 + (1 : Int)))) H26)) (qW.j4 x0 k o3 t5 HL5)
def qW.b (x0 : Option Addr) (x1 : List Value) (H : AH) (k : Int → AH → Prop) : Prop :=
 newC H ⟨x1, .rw, 0⟩ fun o3 H3 => ldA H3 ⟨o3, 0, none⟩ 4 fun c15 => qb2 x0 c15 H3 fun n16 H16 => bcase ((n16 : Int) != (0 : Int)) (k n16 H16) (loopT (qW.l5 x0 k o3) (((0 : Int), (0 : Int)) : Int × Int) H16)
def qW.ann : Ann := { keep := fun r => match r with | 5 => [(4, .int .i64), (20, .int .i64)] | 14 => [(4, .int .i64), (40, .int .i64)] | _ => [], ord := fun r => match r with | 17 => [0, 1, 2, 3, 4, 5, 6, 7, 8] | _ => [] }
theorem qW.link {x0 : Option Addr} {x1 : List Value} {H : AH} {k : Int → AH → Prop} (h : qW.b x0 x1 H k) : qW x0 x1 H k := lk1 pan hT hm Tryz.func30 (by kernel_rfl) (A := qW.ann) (by kernel_rfl) (by simp) (by kernel_rfl) h
def qbb.b (x0 : Option Addr) (H : AH) (k : Int → AH → Prop) : Prop :=
 bcase (ql1 x0) (k (0 : Int) H) (onPtr x0 fun a6 => elI .i64 (AH.cell? H (qlm a6 2)) fun n8 => k n8 H)
theorem qbb.link {x0 : Option Addr} {H : AH} {k : Int → AH → Prop} (h : qbb.b x0 H k) : qbb x0 H k := lk1 pan hT hm Tryz.func105 (by kernel_rfl) (A := ann0) (by kernel_rfl) (by simp) (by kernel_rfl) h
def log_New.j1 (x0 : Option Addr) (x1 : Option Addr) (k : Option Addr → AH → Prop) (x15 : Bool) (Hj : AH) : Prop :=
 bcase x15 (k none Hj) (newC Hj ⟨[(qls x0), (qls x1)], .rw, 0⟩ fun o19 H19 => k (some ⟨o19, 0, none⟩) H19)
def log_New.b (x0 : Option Addr) (x1 : Option Addr) (H : AH) (k : Option Addr → AH → Prop) : Prop :=
 bcase (ql1 x0) (log_New.j1 x0 x1 k true H) (bcase (ql1 x1) (log_New.j1 x0 x1 k true H) (qbb x1 H fun n13 H13 => log_New.j1 x0 x1 k (decide ((n13 : Int) ≤ (16 : Int))) H13))
theorem log_New.link {x0 : Option Addr} {x1 : Option Addr} {H : AH} {k : Option Addr → AH → Prop} (h : log_New.b x0 x1 H k) : log_New x0 x1 H k := lk1 pan hT hm Tryz.func74 (by kernel_rfl) (A := ann0) (by kernel_rfl) (by simp) (by kernel_rfl) h
def qcz.b (x0 : Int) (H : AH) (k : Int → AH → Prop) : Prop :=
 ((8 : Int) : Int) ≠ 0 ∧ k (qll .i64 (qmo (qll .i64 ((qll .i64 (x0 + (8 : Int))) - (1 : Int))) (8 : Int))) H
theorem qcz.link {x0 : Int} {H : AH} {k : Int → AH → Prop} (h : qcz.b x0 H k) : qcz x0 H k := lk1 pan hT hm Tryz.func145 (by kernel_rfl) (A := ann0) (by kernel_rfl) (by simp) (by kernel_rfl) h
def qaL.j1 (t8 : Sl × Int × Sl × Int) (it8 : (Sl × Int × Sl × Int) → AH → Prop) (o10 : Nat) (H71 : AH) (x11 : Int) : Prop :=
 ldA H71 ⟨o10, 0, none⟩ 8 fun c78 => (qly c78 = 8) ∧ (qly (setMany [(qlk .i64 x11), (qlk .u64 (0 : Int)), (qlk .u64 (0 : Int)), (qlk .u64 (0 : Int)), (qlk .u64 (0 : Int)), (qlk .u64 (0 : Int)), (qlk .u64 (0 : Int)), (qlk .u64 (0 : Int)), (qlk .u64 (0 : Int))] 1 c78) = 9) ∧ newC H71 ⟨(setMany [(qlk .i64 (0 : Int)), (qlk .u64 (0 : Int)), (qlk .u64 (0 : Int)), (qlk .u64 (0 : Int)), (qlk .u64 (0 : Int)), (qlk .u64 (0 : Int)), (qlk .u64 (0 : Int)), (qlk .u64 (0 : Int)), (qlk .u64 (0 : Int))] 0 (setMany [(qlk .i64 x11), (qlk .u64 (0 : Int)), (qlk .u64 (0 : Int)), (qlk .u64 (0 : Int)), (qlk .u64 (0 : Int)), (qlk .u64 (0 : Int)), (qlk .u64 (0 : Int)), (qlk .u64 (0 : Int)), (qlk .u64 (0 : Int))] 1 c78)), .rw, 9⟩ fun o80 H80 => appendC 9 H80 t8.2.2.1 ⟨(some ⟨o80, 0, none⟩), 1, 1⟩ fun s81 H81 => it8 (t8.1, t8.2.1, s81, (qll .i64 (t8.2.2.2 + (1 : Int)))) H81
def qaL.l2 (x0 : Option Addr) (k : Sl → Int → AH → Prop) (n18a : Int) (t8 : Sl × Int × Sl × Int) (HL8 : AH) (it8 : (Sl × Int × Sl × Int) → AH → Prop) : Prop :=
 bcase (decide ((t8.2.2.2 : Int) < (qll .i64 n18a))) (onPtr x0 fun a35 => elP (AH.cell? HL8 (qlm a35 1)) fun p37 => ((8 : Int) : Int) ≠ 0 ∧ qbo p37 (qll .i64 (qmo t8.2.2.2 (8 : Int))) HL8 fun c40a n40b H40 => newC H40 ⟨[(qlk .u64 (0 : Int)), (qlk .u64 (0 : Int)), (qlk .u64 (0 : Int)), (qlk .u64 (0 : Int)), (qlk .u64 (0 : Int)), (qlk .u64 (0 : Int)), (qlk .u64 (0 : Int)), (qlk .u64 (0 : Int))], .rw, 0⟩ fun o8 H8 => (qly c40a = 8 ∧ ql0 c40a qq = true) ∧ stC H8 ⟨o8, 0, none⟩ c40a fun Hs2 => bcase ((n40b : Int) != (0 : Int)) (k ⟨none, 0, 0⟩ n40b Hs2) (onPtr x0 fun a48 => elP (AH.cell? Hs2 (qlm a48 1)) fun p50 => newC Hs2 ⟨[(qlk .u64 (0 : Int)), (qlk .u64 (0 : Int)), (qlk .u64 (0 : Int)), (qlk .u64 (0 : Int)), (qlk .u64 (0 : Int)), (qlk .u64 (0 : Int)), (qlk .u64 (0 : Int)), (qlk .u64 (0 : Int))], .rw, 0⟩ fun o10 H10 => qcz (qll .i64 n18a) H10 fun n53 H53 => AH.cell? H53 (qlm a48 1) = some (qls p50) ∧ qbo p50 (qll .i64 (n53 + t8.2.2.2)) H53 fun c56a n56b H56 => (qly c56a = 8 ∧ ql0 c56a qq = true) ∧ stC H56 ⟨o10, 0, none⟩ c56a fun Hs4 => bcase ((n56b : Int) != (0 : Int)) (k ⟨none, 0, 0⟩ n56b Hs4) (((8 : Int) : Int) ≠ 0 ∧ (0 ≤ (qmg t8.2.2.2 (8 : Int)) ∧ (qmg t8.2.2.2 (8 : Int)) < ((8 : Nat) : Int)) ∧ elI .u64 (AH.cell? Hs4 (qlm ⟨o8, 0, none⟩ (qlr (qmg t8.2.2.2 (8 : Int)) * 1))) fun n65 => onPtr x0 fun a68 => elP (AH.cell? Hs4 (qlm a68 1)) fun p70 => qbb p70 Hs4 fun n71 H71 => bcase (decide ((n65 : Int) < (qll .u64 n71))) (qaL.j1 t8 it8 o10 H71 (qll .i64 n65)) (qaL.j1 t8 it8 o10 H71 (-1 : Int))))) (k t8.2.2.1 (0 : Int) HL8)
def qaL.b (x0 : Option Addr) (H : AH) (k : Sl → Int → AH → Prop) : Prop :=
 onPtr x0 fun a15 => elP (AH.cell? H (qlm a15 0)) fun p17 => qS p17 (1 : Int) H fun n18a n18b H18 => bcase ((n18b : Int) != (0 : Int)) (k ⟨none, 0, 0⟩ n18b H18) (bcase (decide ((n18a : Int) > (14 : Int))) (k ⟨none, 0, 0⟩ (6 : Int) H18) (loopT (qaL.l2 x0 k n18a) ((⟨none, 0, 0⟩, (0 : Int), ⟨none, 0, 0⟩, (0 : Int)) : Sl × Int × Sl × Int) H18))
def qaL.ann : Ann := { keep := fun r => match r with | 8 => [(2, .sl), (3, .int .i64), (6, .sl), (30, .int .i64)] | _ => [], ord := fun r => match r with | 13 => [0, 1, 2, 3, 4, 5, 7, 13, 6, 8, 9, 10, 11, 12, 14, 15] | _ => [] }
theorem qaL.link {x0 : Option Addr} {H : AH} {k : Sl → Int → AH → Prop} (h : qaL.b x0 H k) : qaL x0 H k := lk2 pan hT hm Tryz.func106 (by kernel_rfl) (A := qaL.ann) (by kernel_rfl) (by simp) (by simp) (by kernel_rfl) h
def qaR.j1 (x0 : Option Addr) (k : Int → AH → Prop) (HL2 : AH) : Prop :=
 onPtr x0 fun a31 => elP (AH.cell? HL2 (qlm a31 0)) fun p33 => qN p33 (1 : Int) (0 : Int) HL2 fun n34 H34 => k n34 H34
def qaR.l2 (x0 : Option Addr) (x1 : Sl) (k : Int → AH → Prop) (t2 : Int × Int) (HL2 : AH) (it2 : (Int × Int) → AH → Prop) : Prop :=
 bcase (decide ((t2.2 : Int) < ((x1.n : Nat) : Int))) ((0 ≤ t2.2 ∧ t2.2 < ((x1.n : Nat) : Int)) ∧ onPtr x1.a fun a12 => ldA HL2 (qlm a12 (qlr t2.2 * 9)) 9 fun c13 => newC HL2 ⟨[(qlk .i64 (0 : Int)), (qlk .u64 (0 : Int)), (qlk .u64 (0 : Int)), (qlk .u64 (0 : Int)), (qlk .u64 (0 : Int)), (qlk .u64 (0 : Int)), (qlk .u64 (0 : Int)), (qlk .u64 (0 : Int)), (qlk .u64 (0 : Int))], .rw, 0⟩ fun o6 H6 => (qly c13 = 9 ∧ ql0 c13 qq = true) ∧ stC H6 ⟨o6, 0, none⟩ c13 fun Hs2 => onPtr x0 fun a15 => elP (AH.cell? Hs2 (qlm a15 1)) fun p17 => elI .i64 (AH.cell? Hs2 (qlm ⟨o6, 0, none⟩ 0)) fun n19 => ldA Hs2 (qlm ⟨o6, 0, none⟩ 1) 8 fun c21 => qa1 p17 n19 c21 Hs2 fun n22 H22 => bcase ((n22 : Int) == (0 : Int)) (it2 (t2.1, (qll .i64 (t2.2 + (1 : Int)))) H22) (bcase ((n22 : Int) == (3 : Int)) (k (0 : Int) H22) (k n22 H22))) (qaR.j1 x0 k HL2)
def qaR.b (x0 : Option Addr) (x1 : Sl) (H : AH) (k : Int → AH → Prop) : Prop :=
 loopT (qaR.l2 x0 x1 k) (((0 : Int), (0 : Int)) : Int × Int) H
def qaR.ann : Ann := { keep := fun r => match r with | 2 => [(4, .int .i64), (10, .int .i64)] | _ => [], ord := fun r => match r with | 4 => [0, 1, 2, 3, 4, 5, 6, 7, 8, 9] | _ => [] }
theorem qaR.link {x0 : Option Addr} {x1 : Sl} {H : AH} {k : Int → AH → Prop} (h : qaR.b x0 x1 H k) : qaR x0 x1 H k := lk1 pan hT hm Tryz.func122 (by kernel_rfl) (A := qaR.ann) (by kernel_rfl) (by simp) (by kernel_rfl) h
def qci.b (x0 : Option Addr) (H : AH) (k : Int → AH → Prop) : Prop :=
 bcase (ql1 x0) (k (1 : Int) H) (qaL x0 H fun s9a n9b H9 => bcase ((n9b : Int) != (0 : Int)) (k n9b H9) (bcase ((((s9a.n : Nat) : Int) : Int) == (0 : Int)) (k (0 : Int) H9) (onPtr x0 fun a22 => elP (AH.cell? H9 (qlm a22 1)) fun p24 => qbb p24 H9 fun n25 H25 => log_May n25 s9a H25 fun b27 H27 => bcase (!b27) (k (6 : Int) H27) (qaR x0 s9a H27 fun n31 H31 => k n31 H31))))
theorem qci.link {x0 : Option Addr} {H : AH} {k : Int → AH → Prop} (h : qci.b x0 H k) : qci x0 H k := lk1 pan hT hm Tryz.func75 (by kernel_rfl) (A := ann0) (by kernel_rfl) (by simp) (by kernel_rfl) h
def qaJ.j1 (x0 : Option Addr) (x1 : Int) (k : List Value → Int → AH → Prop) (o4 : Nat) (x5 : Int) (Hj : AH) : Prop :=
 onPtr x0 fun a56 => elP (AH.cell? Hj (qlm a56 1)) fun p58 => qbo p58 x1 Hj fun c60a n60b H60 => (qly c60a = 8 ∧ ql0 c60a qq = true) ∧ stC H60 ⟨o4, 0, none⟩ c60a fun Hs6 => ldA Hs6 ⟨o4, 0, none⟩ 8 fun r0 => k r0 n60b Hs6
def qaJ.l2 (x0 : Option Addr) (x1 : Int) (k : List Value → Int → AH → Prop) (o4 : Nat) (s28a : Sl) (t8 : Int × Int) (HL8 : AH) (it8 : (Int × Int) → AH → Prop) : Prop :=
 bcase (decide ((t8.2 : Int) < ((s28a.n : Nat) : Int))) ((0 ≤ t8.2 ∧ t8.2 < ((s28a.n : Nat) : Int)) ∧ onPtr s28a.a fun a46 => ldA HL8 (qlm a46 (qlr t8.2 * 9)) 9 fun c47 => newC HL8 ⟨[(qlk .i64 (0 : Int)), (qlk .u64 (0 : Int)), (qlk .u64 (0 : Int)), (qlk .u64 (0 : Int)), (qlk .u64 (0 : Int)), (qlk .u64 (0 : Int)), (qlk .u64 (0 : Int)), (qlk .u64 (0 : Int)), (qlk .u64 (0 : Int))], .rw, 0⟩ fun o9 H9 => (qly c47 = 9 ∧ ql0 c47 qq = true) ∧ stC H9 ⟨o9, 0, none⟩ c47 fun Hs8 => elI .i64 (AH.cell? Hs8 (qlm ⟨o9, 0, none⟩ 0)) fun n49 => bcase ((n49 : Int) == x1) (ldA Hs8 (qlm ⟨o9, 0, none⟩ 1) 8 fun c53 => (qly c53 = 8 ∧ ql0 c53 qq = true) ∧ stC Hs8 ⟨o4, 0, none⟩ c53 fun Hs10 => ldA Hs10 ⟨o4, 0, none⟩ 8 fun r0 => k r0 (0 : Int) Hs10) (it8 (t8.1, (qll .i64 (t8.2 + (1 : Int)))) Hs8)) (qaJ.j1 x0 x1 k o4 t8.1 HL8)
def qaJ.j3 (x0 : Option Addr) (x1 : Int) (k : List Value → Int → AH → Prop) (o4 : Nat) (x24 : Bool) (Hj : AH) : Prop :=
 bcase x24 ((qly [(qlk .u64 (0 : Int)), (qlk .u64 (0 : Int)), (qlk .u64 (0 : Int)), (qlk .u64 (0 : Int)), (qlk .u64 (0 : Int)), (qlk .u64 (0 : Int)), (qlk .u64 (0 : Int)), (qlk .u64 (0 : Int))] = 8 ∧ ql0 [(qlk .u64 (0 : Int)), (qlk .u64 (0 : Int)), (qlk .u64 (0 : Int)), (qlk .u64 (0 : Int)), (qlk .u64 (0 : Int)), (qlk .u64 (0 : Int)), (qlk .u64 (0 : Int)), (qlk .u64 (0 : Int))] qq = true) ∧ stC Hj ⟨o4, 0, none⟩ [(qlk .u64 (0 : Int)), (qlk .u64 (0 : Int)), (qlk .u64 (0 : Int)), (qlk .u64 (0 : Int)), (qlk .u64 (0 : Int)), (qlk .u64 (0 : Int)), (qlk .u64 (0 : Int)), (qlk .u64 (0 : Int))] fun Hs2 => ldA Hs2 ⟨o4, 0, none⟩ 8 fun r0 => k r0 (1 : Int) Hs2) (qaL x0 Hj fun s28a n28b H28 => bcase ((n28b : Int) == (2 : Int)) ((qly [(qlk .u64 (0 : Int)), (qlk .u64 (0 : Int)), (qlk .u64 (0 : Int)), (qlk .u64 (0 : Int)), (qlk .u64 (0 : Int)), (qlk .u64 (0 : Int)), (qlk .u64 (0 : Int)), (qlk .u64 (0 : Int))] = 8 ∧ ql0 [(qlk .u64 (0 : Int)), (qlk .u64 (0 : Int)), (qlk .u64 (0 : Int)), (qlk .u64 (0 : Int)), (qlk .u64 (0 : Int)), (qlk .u64 (0 : Int)), (qlk .u64 (0 : Int)), (qlk .u64 (0 : Int))] qq = true) ∧ stC H28 ⟨o4, 0, none⟩ [(qlk .u64 (0 : Int)), (qlk .u64 (0 : Int)), (qlk .u64 (0 : Int)), (qlk .u64 (0 : Int)), (qlk .u64 (0 : Int)), (qlk .u64 (0 : Int)), (qlk .u64 (0 : Int)), (qlk .u64 (0 : Int))] fun Hs4 => ldA Hs4 ⟨o4, 0, none⟩ 8 fun r0 => k r0 n28b Hs4) (onPtr x0 fun a36 => elP (AH.cell? H28 (qlm a36 1)) fun p38 => qbb p38 H28 fun n39 H39 => log_May n39 s28a H39 fun b41 H41 => bcase b41 (loopT (qaJ.l2 x0 x1 k o4 s28a) (((0 : Int), (0 : Int)) : Int × Int) H41) (qaJ.j1 x0 x1 k o4 (0 : Int) H41)))
def qaJ.b (x0 : Option Addr) (x1 : Int) (H : AH) (k : List Value → Int → AH → Prop) : Prop :=
 newC H ⟨[(qlk .u64 (0 : Int)), (qlk .u64 (0 : Int)), (qlk .u64 (0 : Int)), (qlk .u64 (0 : Int)), (qlk .u64 (0 : Int)), (qlk .u64 (0 : Int)), (qlk .u64 (0 : Int)), (qlk .u64 (0 : Int))], .rw, 0⟩ fun o4 H4 => bcase (ql1 x0) (qaJ.j3 x0 x1 k o4 true H4) (bcase (decide ((x1 : Int) < (16 : Int))) (qaJ.j3 x0 x1 k o4 true H4) (onPtr x0 fun a19 => elP (AH.cell? H4 (qlm a19 1)) fun p21 => qbb p21 H4 fun n22 H22 => qaJ.j3 x0 x1 k o4 (decide ((x1 : Int) ≥ n22)) H22))
def qaJ.ann : Ann := { keep := fun r => match r with | 8 => [(5, .int .i64), (44, .int .i64)] | _ => [], ord := fun r => match r with  | _ => [] }
theorem qaJ.link {x0 : Option Addr} {x1 : Int} {H : AH} {k : List Value → Int → AH → Prop} (h : qaJ.b x0 x1 H k) : qaJ x0 x1 H k := lk2 pan hT hm Tryz.func55 (by kernel_rfl) (A := qaJ.ann) (by kernel_rfl) (by simp) (by simp) (by kernel_rfl) h
def qal.l1 (x0 : Option Addr) (k : Sl → Int → AH → Prop) (n14 : Int) (t5 : Sl × Int × Sl × Int) (HL5 : AH) (it5 : (Sl × Int × Sl × Int) → AH → Prop) : Prop :=
 bcase (decide ((t5.2.2.2 : Int) < n14)) (onPtr x0 fun a20 => elP (AH.cell? HL5 (qlm a20 6)) fun p22 => onPtr x0 fun a24 => ldA HL5 (qlm a24 1) 4 fun c26 => newC HL5 ⟨[(qlk .u64 (0 : Int)), (qlk .u64 (0 : Int)), (qlk .u64 (0 : Int)), (qlk .u64 (0 : Int)), (qlk .u64 (0 : Int)), (qlk .u64 (0 : Int)), (qlk .u64 (0 : Int)), (qlk .u64 (0 : Int))], .rw, 0⟩ fun o6 H6 => qbQ c26 t5.2.2.2 H6 fun n28 H28 => AH.cell? H28 (qlm a20 6) = some (qls p22) ∧ qaJ p22 n28 H28 fun c29a n29b H29 => (qly c29a = 8 ∧ ql0 c29a qq = true) ∧ stC H29 ⟨o6, 0, none⟩ c29a fun Hs2 => bcase ((n29b : Int) != (0 : Int)) (k ⟨none, 0, 0⟩ n29b Hs2) (appendC 1 Hs2 t5.2.2.1 ⟨(some ⟨o6, 0, none⟩), 8, 0⟩ fun s37 H37 => it5 (t5.1, t5.2.1, s37, (qll .i64 (t5.2.2.2 + (1 : Int)))) H37)) (k t5.2.2.1 (0 : Int) HL5)
def qal.b (x0 : Option Addr) (H : AH) (k : Sl → Int → AH → Prop) : Prop :=
 bcase (ql1 x0) (k ⟨none, 0, 0⟩ (1 : Int) H) (onPtr x0 fun a11 => elI .i64 (AH.cell? H (qlm (qlm a11 1) 0)) fun n14 => loopT (qal.l1 x0 k n14) ((⟨none, 0, 0⟩, (0 : Int), ⟨none, 0, 0⟩, (0 : Int)) : Sl × Int × Sl × Int) H)
def qal.ann : Ann := { keep := fun r => match r with | 5 => [(2, .sl), (3, .int .i64), (4, .sl), (15, .int .i64)] | _ => [], ord := fun r => match r with | 7 => [0, 1, 2, 3, 4, 5, 6, 7, 8, 14, 9, 10, 11, 12, 13, 15, 16] | _ => [] }
theorem qal.link {x0 : Option Addr} {H : AH} {k : Sl → Int → AH → Prop} (h : qal.b x0 H k) : qal x0 H k := lk2 pan hT hm Tryz.func18 (by kernel_rfl) (A := qal.ann) (by kernel_rfl) (by simp) (by simp) (by kernel_rfl) h
def qbM.j1 (x0 : Int) (k : Int → Bool → Bool → AH → Prop) (x14 : Bool) (Hj : AH) : Prop :=
 bcase x14 (k (0 : Int) false false Hj) ((0 : Int) ≤ (1 : Int) ∧ k (qll .i64 (shrI .u64 x0 (1 : Int))) (((andI .u64 x0 (1 : Int)) : Int) == (1 : Int)) true Hj)
def qbM.b (x0 : Int) (H : AH) (k : Int → Bool → Bool → AH → Prop) : Prop :=
 (0 : Int) ≤ (1 : Int) ∧ bcase (decide (((shrI .u64 x0 (1 : Int)) : Int) > (512 : Int))) (qbM.j1 x0 k true H) ((0 : Int) ≤ (1 : Int) ∧ qbF (qll .i64 (shrI .u64 x0 (1 : Int))) H fun b12 H12 => qbM.j1 x0 k (!b12) H12)
theorem qbM.link {x0 : Int} {H : AH} {k : Int → Bool → Bool → AH → Prop} (h : qbM.b x0 H k) : qbM x0 H k := lk3 pan hT hm Tryz.func123 (by kernel_rfl) (A := ann0) (by kernel_rfl) (by simp) (by simp) (by simp) (by kernel_rfl) h
def qax.j1 (k : Bool → AH → Prop) (t5 : Bool × Int × Bool × Int) (it5 : (Bool × Int × Bool × Int) → AH → Prop) (o8 : Nat) (x43 : Bool) (Hj : AH) : Prop :=
 bcase x43 (k false Hj) (elI .i64 (AH.cell? Hj (qlm ⟨o8, 0, none⟩ 1)) fun n46 => elB (AH.cell? Hj (qlm ⟨o8, 0, none⟩ 2)) fun b49 => it5 (t5.1, (qll .i64 (t5.2.1 + n46)), (!b49), (qll .i64 (t5.2.2.2 + (1 : Int)))) Hj)
def qax.l2 (x0 : Sl) (x1 : Int) (k : Bool → AH → Prop) (t5 : Bool × Int × Bool × Int) (HL5 : AH) (it5 : (Bool × Int × Bool × Int) → AH → Prop) : Prop :=
 bcase (decide ((t5.2.2.2 : Int) < ((x0.n : Nat) : Int))) ((0 ≤ t5.2.2.2 ∧ t5.2.2.2 < ((x0.n : Nat) : Int)) ∧ onPtr x0.a fun a16 => ldA HL5 (qlm a16 (qlr t5.2.2.2 * 3)) 3 fun c17 => newC HL5 ⟨[(qlk .i64 (0 : Int)), (qlk .i64 (0 : Int)), (qlW false)], .rw, 0⟩ fun o8 H8 => (qly c17 = 3 ∧ ql0 c17 qq = true) ∧ stC H8 ⟨o8, 0, none⟩ c17 fun Hs2 => elI .i64 (AH.cell? Hs2 (qlm ⟨o8, 0, none⟩ 0)) fun n19 => bcase ((n19 : Int) != t5.2.1) (qax.j1 k t5 it5 o8 true Hs2) (elI .i64 (AH.cell? Hs2 (qlm ⟨o8, 0, none⟩ 1)) fun n24 => qbF n24 Hs2 fun b25 H25 => bcase (!b25) (qax.j1 k t5 it5 o8 true H25) (bcase t5.2.2.1 (elB (AH.cell? H25 (qlm ⟨o8, 0, none⟩ 2)) fun b32 => bcase (!b32) (qax.j1 k t5 it5 o8 true H25) (elI .i64 (AH.cell? H25 (qlm ⟨o8, 0, none⟩ 1)) fun n38 => qax.j1 k t5 it5 o8 (decide ((n38 : Int) > (qll .i64 (x1 - t5.2.1)))) H25)) (elI .i64 (AH.cell? H25 (qlm ⟨o8, 0, none⟩ 1)) fun n38 => qax.j1 k t5 it5 o8 (decide ((n38 : Int) > (qll .i64 (x1 - t5.2.1)))) H25)))) (k ((t5.2.1 : Int) == x1) HL5)
def qax.b (x0 : Sl) (x1 : Int) (H : AH) (k : Bool → AH → Prop) : Prop :=
 qbx x1 H fun b10 H10 => bcase (!b10) (k false H10) (loopT (qax.l2 x0 x1 k) ((false, (0 : Int), false, (0 : Int)) : Bool × Int × Bool × Int) H10)
def qax.ann : Ann := { keep := fun r => match r with | 5 => [(4, .bool), (5, .int .i64), (6, .bool), (14, .int .i64)] | _ => [], ord := fun r => match r with  | _ => [] }
theorem qax.link {x0 : Sl} {x1 : Int} {H : AH} {k : Bool → AH → Prop} (h : qax.b x0 x1 H k) : qax x0 x1 H k := lk1 pan hT hm Tryz.func124 (by kernel_rfl) (A := qax.ann) (by kernel_rfl) (by simp) (by kernel_rfl) h
def qab.j1 (x0 : Sl) (k : Sl → Bool → AH → Prop) (t3 : Sl × Bool × Sl × Int) (HL3 : AH) : Prop :=
 qax t3.2.2.1 ((x0.n : Nat) : Int) HL3 fun b37 H37 => bcase (!b37) (k ⟨none, 0, 0⟩ false H37) (k t3.2.2.1 true H37)
def qab.l2 (x0 : Sl) (k : Sl → Bool → AH → Prop) (t3 : Sl × Bool × Sl × Int) (HL3 : AH) (it3 : (Sl × Bool × Sl × Int) → AH → Prop) : Prop :=
 bcase (decide ((t3.2.2.2 : Int) < ((x0.n : Nat) : Int))) ((0 ≤ t3.2.2.2 ∧ t3.2.2.2 < ((x0.n : Nat) : Int)) ∧ onPtr x0.a fun a16 => elI .u64 (AH.cell? HL3 (qlm a16 (qlr t3.2.2.2 * 1))) fun n17 => qbM n17 HL3 fun n18a b18b b18c H18 => bcase (!b18c) (k ⟨none, 0, 0⟩ false H18) ((qly [(qlk .i64 t3.2.2.2), (qlk .i64 n18a), (qlW b18b)] = 3) ∧ newC H18 ⟨[(qlk .i64 t3.2.2.2), (qlk .i64 n18a), (qlW b18b)], .rw, 3⟩ fun o29 H29 => appendC 3 H29 t3.2.2.1 ⟨(some ⟨o29, 0, none⟩), 1, 1⟩ fun s30 H30 => it3 (t3.1, t3.2.1, s30, (qll .i64 (t3.2.2.2 + n18a))) H30)) (qab.j1 x0 k t3 HL3)
def qab.b (x0 : Sl) (H : AH) (k : Sl → Bool → AH → Prop) : Prop :=
 loopT (qab.l2 x0 k) ((⟨none, 0, 0⟩, false, ⟨none, 0, 0⟩, (0 : Int)) : Sl × Bool × Sl × Int) H
def qab.ann : Ann := { keep := fun r => match r with | 3 => [(2, .sl), (3, .bool), (4, .sl), (5, .int .i64)] | _ => [], ord := fun r => match r with  | _ => [] }
theorem qab.link {x0 : Sl} {H : AH} {k : Sl → Bool → AH → Prop} (h : qab.b x0 H k) : qab x0 H k := lk2 pan hT hm Tryz.func77 (by kernel_rfl) (A := qab.ann) (by kernel_rfl) (by simp) (by simp) (by kernel_rfl) h
def qbE.j1 (k : Int → AH → Prop) (o1 : Nat) (H1 : AH) (x10 : Bool) : Prop :=
 bcase x10 (k (0 : Int) H1) (elI .i64 (AH.cell? H1 (qlm ⟨o1, 0, none⟩ 0)) fun n12 => k (qll .i64 ((qll .i64 (n12 + (1 : Int))) * (8 : Int))) H1)
def qbE.b (x0 : List Value) (H : AH) (k : Int → AH → Prop) : Prop :=
 newC H ⟨x0, .rw, 0⟩ fun o1 H1 => elI .i64 (AH.cell? H1 (qlm ⟨o1, 0, none⟩ 0)) fun n4 => bcase (decide ((n4 : Int) < (0 : Int))) (qbE.j1 k o1 H1 true) (elI .i64 (AH.cell? H1 (qlm ⟨o1, 0, none⟩ 0)) fun n8 => qbE.j1 k o1 H1 (decide ((n8 : Int) > (512 : Int))))
theorem qbE.link {x0 : List Value} {H : AH} {k : Int → AH → Prop} (h : qbE.b x0 H k) : qbE x0 H k := lk1 pan hT hm Tryz.func136 (by kernel_rfl) (A := ann0) (by kernel_rfl) (by simp) (by kernel_rfl) h
def qbU.b (x0 : List Value) (x1 : Option Addr) (H : AH) (k : Bool → AH → Prop) : Prop :=
 newC H ⟨x0, .rw, 0⟩ fun o2 H2 => elB (AH.cell? H2 (qlm ⟨o2, 0, none⟩ 2)) fun b5 => bcase b5 (ldA H2 ⟨o2, 0, none⟩ 3 fun c7 => onPtr x1 fun a9 => elI .i64 (AH.cell? H2 a9) fun n9 => qbE c7 H2 fun n8 H8 => AH.cell? H8 a9 = some (qlk .i64 n9) ∧ k ((n8 : Int) == n9) H8) (k false H2)
def qbU.ann : Ann := { keep := fun r => match r with  | _ => [], ord := fun r => match r with | 1 => [0, 1, 2, 3, 5, 4, 6, 7, 8] | _ => [] }
theorem qbU.link {x0 : List Value} {x1 : Option Addr} {H : AH} {k : Bool → AH → Prop} (h : qbU.b x0 x1 H k) : qbU x0 x1 H k := lk1 pan hT hm Tryz.func150 (by kernel_rfl) (A := qbU.ann) (by kernel_rfl) (by simp) (by kernel_rfl) h
def qcm.b (x0 : Sl) (x1 : Int) (H : AH) (k : Sl → Int → AH → Prop) : Prop :=
 newC H ⟨[(qlk .i64 x1)], .rw, 0⟩ fun o3 H3 => qab x0 H3 fun s10a b10b H10 => qC s10a (some ⟨o3, 0, none⟩) H10 fun n16 H16 => k s10a n16 H16
theorem qcm.link {x0 : Sl} {x1 : Int} {H : AH} {k : Sl → Int → AH → Prop} (h : qcm.b x0 x1 H k) : qcm x0 x1 H k := lk2 pan hT hm Tryz.func125 (by kernel_rfl) (A := ann0) (by kernel_rfl) (by simp) (by simp) (by kernel_rfl) h
def qcB.b (x0 : Sl) (x1 : Int) (H : AH) (k : Bool → AH → Prop) : Prop :=
 qcm x0 x1 H fun s10a n10b H10 => k (decide ((n10b : Int) ≥ (0 : Int))) H10
theorem qcB.link {x0 : Sl} {x1 : Int} {H : AH} {k : Bool → AH → Prop} (h : qcB.b x0 x1 H k) : qcB x0 x1 H k := lk1 pan hT hm Tryz.func78 (by kernel_rfl) (A := ann0) (by kernel_rfl) (by simp) (by kernel_rfl) h
def qcw.b (x0 : Int) (H : AH) (k : Int → AH → Prop) : Prop :=
 ((4 : Int) : Int) ≠ 0 ∧ k (qll .i64 (qmo (if (0 : Int) > x0 then (0 : Int) else x0) (4 : Int))) H
theorem qcw.link {x0 : Int} {H : AH} {k : Int → AH → Prop} (h : qcw.b x0 H k) : qcw x0 H k := lk1 pan hT hm Tryz.func95 (by kernel_rfl) (A := ann0) (by kernel_rfl) (by simp) (by kernel_rfl) h
def qcH.b (x0 : List Value) (H : AH) (k : Int → AH → Prop) : Prop :=
 newC H ⟨x0, .rw, 0⟩ fun o1 H1 => ldA H1 ⟨o1, 0, none⟩ 4 fun c3 => qbK c3 H1 fun b4 H4 => bcase (!b4) (k (0 : Int) H4) (elI .i64 (AH.cell? H4 (qlm ⟨o1, 0, none⟩ 0)) fun n7 => qcw (qll .i64 (n7 - (1 : Int))) H4 fun n9 H9 => k (qll .i64 (n9 + (1 : Int))) H9)
theorem qcH.link {x0 : List Value} {H : AH} {k : Int → AH → Prop} (h : qcH.b x0 H k) : qcH x0 H k := lk1 pan hT hm Tryz.func45 (by kernel_rfl) (A := ann0) (by kernel_rfl) (by simp) (by kernel_rfl) h
def qbr.l1 (x1 : Sl) (k : Option Addr → AH → Prop) (o21 : Nat) (t5 : Int) (HL5 : AH) (it5 : (Int) → AH → Prop) : Prop :=
 bcase (decide ((t5 : Int) < ((x1.n : Nat) : Int))) ((0 ≤ t5 ∧ t5 < ((x1.n : Nat) : Int)) ∧ onPtr x1.a fun a26 => elI .i64 (AH.cell? HL5 (qlm a26 (qlr t5 * 1))) fun n27 => elL (AH.cell? HL5 (qlm ⟨o21, 0, none⟩ 1)) fun s36 => newC HL5 ⟨[(qlk .i64 (if (1099511627776 : Int) < (if (0 : Int) > n27 then (0 : Int) else n27) then (1099511627776 : Int) else (if (0 : Int) > n27 then (0 : Int) else n27)))], .rw, 1⟩ fun o38 H38 => elL (AH.cell? H38 (qlm ⟨o21, 0, none⟩ 2)) fun s43 => newC H38 ⟨[(qlk .i64 (if (1099511627776 : Int) < (if (0 : Int) > n27 then (0 : Int) else n27) then (1099511627776 : Int) else (if (0 : Int) > n27 then (0 : Int) else n27)))], .rw, 1⟩ fun o45 H45 => appendC 1 H45 s36 ⟨(some ⟨o38, 0, none⟩), 1, 1⟩ fun s39 H39 => AH.cell? H39 (qlm ⟨o21, 0, none⟩ 2) = some (Sl.val s43) ∧ appendC 1 H39 s43 ⟨(some ⟨o45, 0, none⟩), 1, 1⟩ fun s46 H46 => stC H46 (qlm ⟨o21, 0, none⟩ 1) [(Sl.val s39)] fun Hs2 => stC Hs2 (qlm ⟨o21, 0, none⟩ 2) [(Sl.val s46)] fun Hs4 => it5 (qll .i64 (t5 + (1 : Int))) Hs4) (k (some ⟨o21, 0, none⟩) HL5)
def qbr.j2 (x0 : Int) (x1 : Sl) (H : AH) (k : Option Addr → AH → Prop) (x18 : Bool) : Prop :=
 bcase x18 (k none H) (newC H ⟨[(qlk .i64 x0), (qlR none 0 0), (qlR none 0 0)], .rw, 0⟩ fun o21 H21 => loopT (qbr.l1 x1 k o21) (((0 : Int)) : Int) H21)
def qbr.b (x0 : Int) (x1 : Sl) (H : AH) (k : Option Addr → AH → Prop) : Prop :=
 bcase (decide ((x0 : Int) < (1 : Int))) (qbr.j2 x0 x1 H k true) (bcase (decide ((x0 : Int) > (100 : Int))) (qbr.j2 x0 x1 H k true) (qbr.j2 x0 x1 H k (decide ((((x1.n : Nat) : Int) : Int) > (16 : Int)))))
def qbr.ann : Ann := { keep := fun r => match r with | 5 => [(24, .int .i64)] | _ => [], ord := fun r => match r with | 8 => [0, 1, 2, 3, 4, 5, 6, 7, 9, 10, 11, 12, 13, 14, 8, 15, 16, 17, 18, 19, 20, 21] | _ => [] }
theorem qbr.link {x0 : Int} {x1 : Sl} {H : AH} {k : Option Addr → AH → Prop} (h : qbr.b x0 x1 H k) : qbr x0 x1 H k := lk1 pan hT hm Tryz.func79 (by kernel_rfl) (A := qbr.ann) (by kernel_rfl) (by simp) (by kernel_rfl) h
def qah.j1 (k : Option Addr → Int → AH → Prop) (o3 : Nat) (o30 : Nat) (t22 : Option Addr × Int × Sl × Int) (HL22 : AH) : Prop :=
 elI .i64 (AH.cell? HL22 (qlm ⟨o3, 0, none⟩ 3)) fun n115 => qbr n115 t22.2.2.1 HL22 fun p117 H117 => stC H117 (qlm ⟨o30, 0, none⟩ 7) [(qls p117)] fun Hs4 => k (some ⟨o30, 0, none⟩) (0 : Int) Hs4
def qah.l2 (x0 : Option Addr) (k : Option Addr → Int → AH → Prop) (o3 : Nat) (o30 : Nat) (n92 : Int) (t22 : Option Addr × Int × Sl × Int) (HL22 : AH) (it22 : (Option Addr × Int × Sl × Int) → AH → Prop) : Prop :=
 bcase (decide ((t22.2.2.2 : Int) < n92)) (qS x0 (qll .i64 ((19 : Int) + t22.2.2.2)) HL22 fun n100a n100b H100 => bcase ((n100b : Int) != (0 : Int)) (k none n100b H100) (newC H100 ⟨[(qlk .i64 (qll .i64 (if (1099511627776 : Int) < n100a then (1099511627776 : Int) else n100a)))], .rw, 1⟩ fun o110 H110 => appendC 1 H110 t22.2.2.1 ⟨(some ⟨o110, 0, none⟩), 1, 1⟩ fun s111 H111 => it22 (t22.1, t22.2.1, s111, (qll .i64 (t22.2.2.2 + (1 : Int)))) H111)) (qah.j1 k o3 o30 t22 HL22)
def qah.j3 (x0 : Option Addr) (k : Option Addr → Int → AH → Prop) (o3 : Nat) (o30 : Nat) (x90 : Bool) (Hj : AH) : Prop :=
 bcase x90 (k none (6 : Int) Hj) (ldA Hj ⟨o3, 0, none⟩ 4 fun c91 => qcH c91 Hj fun n92 H92 => loopT (qah.l2 x0 k o3 o30 n92) ((none, (0 : Int), ⟨none, 0, 0⟩, (0 : Int)) : Option Addr × Int × Sl × Int) H92)
def qah.b (x0 : Option Addr) (x1 : List Value) (H : AH) (k : Option Addr → Int → AH → Prop) : Prop :=
 newC H ⟨x1, .rw, 0⟩ fun o3 H3 => ldA H3 ⟨o3, 0, none⟩ 4 fun c19 => qb2 x0 c19 H3 fun n20 H20 => bcase ((n20 : Int) != (0 : Int)) (k none n20 H20) (ldA H20 ⟨o3, 0, none⟩ 4 fun c25 => ldA H20 ⟨o3, 0, none⟩ 4 fun c27 => qb7 x0 c27 H20 fun p28 H28 => AH.row? H28 ⟨o3, 0, none⟩ 4 = some c25 ∧ (qly c25 = 4) ∧ newC H28 ⟨(List.set (setMany [(qls x0), (qlk .i64 (0 : Int)), (qlk .i64 (0 : Int)), (qlk .i64 (0 : Int)), (qlk .i64 (0 : Int)), (qls none), (qls none), (qls none), (qlW false)] 1 c25) 5 (qls p28)), .rw, 0⟩ fun o30 H30 => elP (AH.cell? H30 (qlm ⟨o30, 0, none⟩ 5)) fun p36 => log_New x0 p36 H30 fun p37 H37 => stC H37 (qlm ⟨o30, 0, none⟩ 6) [(qls p37)] fun Hs2 => elP (AH.cell? Hs2 (qlm ⟨o30, 0, none⟩ 6)) fun p43 => bcase (ql1 p43) (k none (6 : Int) Hs2) (elP (AH.cell? Hs2 (qlm ⟨o30, 0, none⟩ 6)) fun p48 => qci p48 Hs2 fun n49 H49 => bcase ((n49 : Int) != (0 : Int)) (k none n49 H49) (qal (some ⟨o30, 0, none⟩) H49 fun s55a n55b H55 => bcase ((n55b : Int) != (0 : Int)) (k none n55b H55) (qS x0 (2 : Int) H55 fun n63a n63b H63 => bcase ((n63b : Int) != (0 : Int)) (k none n63b H63) (qab s55a H63 fun s71a b71b H71 => bcase (!b71b) (qah.j3 x0 k o3 o30 true H71) (bcase ((n63a : Int) != (0 : Int)) (bcase (decide ((n63a : Int) > (1048576 : Int))) (qah.j3 x0 k o3 o30 true H71) (qcB s55a (qll .i64 n63a) H71 fun b86 H86 => qah.j3 x0 k o3 o30 (!b86) H86)) (qah.j3 x0 k o3 o30 false H71)))))))
def qah.ann : Ann := { keep := fun r => match r with | 22 => [(4, .ptr), (5, .int .i64), (14, .sl), (93, .int .i64)] | _ => [], ord := fun r => match r with | 4 => [0, 1, 2, 3, 4, 5, 6, 7] | _ => [] }
theorem qah.link {x0 : Option Addr} {x1 : List Value} {H : AH} {k : Option Addr → Int → AH → Prop} (h : qah.b x0 x1 H k) : qah x0 x1 H k := lk2 pan hT hm Tryz.func27 (by kernel_rfl) (A := qah.ann) (by kernel_rfl) (by simp) (by simp) (by kernel_rfl) h
def qaZ.b (x0 : List Value) (x1 : Sl) (H : AH) (k : Option Addr → Option Addr → AH → Prop) : Prop :=
 newC H ⟨x0, .rw, 0⟩ fun o2 H2 => ldA H2 ⟨o2, 0, none⟩ 4 fun c9 => qbP c9 H2 fun n10 H10 => nvm_New n10 x1 H10 fun p12 H12 => ldA H12 ⟨o2, 0, none⟩ 4 fun c14 => qW p12 c14 H12 fun n15 H15 => bcase ((n15 : Int) != (0 : Int)) (k none p12 H15) (ldA H15 ⟨o2, 0, none⟩ 4 fun c20 => qah p12 c20 H15 fun p21a n21b H21 => bcase ((n21b : Int) != (0 : Int)) (k none p12 H21) (k p21a p12 H21))
theorem qaZ.link {x0 : List Value} {x1 : Sl} {H : AH} {k : Option Addr → Option Addr → AH → Prop} (h : qaZ.b x0 x1 H k) : qaZ x0 x1 H k := lk2 pan hT hm Tryz.func15 (by kernel_rfl) (A := ann0) (by kernel_rfl) (by simp) (by simp) (by kernel_rfl) h
def qb6.b (x0 : Option Addr) (H : AH) (k : Bool → AH → Prop) : Prop :=
 bcase (ql1 x0) (k false H) (onPtr x0 fun a9 => elP (AH.cell? H (qlm a9 0)) fun p11 => qS p11 (1 : Int) H fun n12a n12b H12 => k ((n12a : Int) != (0 : Int)) H12)
theorem qb6.link {x0 : Option Addr} {H : AH} {k : Bool → AH → Prop} (h : qb6.b x0 H k) : qb6 x0 H k := lk1 pan hT hm Tryz.func94 (by kernel_rfl) (A := ann0) (by kernel_rfl) (by simp) (by kernel_rfl) h
def qbw.b (x0 : Option Addr) (H : AH) (k : Bool → AH → Prop) : Prop :=
 bcase (!(ql1 x0)) (onPtr x0 fun a7 => elB (AH.cell? H (qlm a7 8)) fun b9 => bcase b9 (k true H) (onPtr x0 fun a12 => elP (AH.cell? H (qlm a12 6)) fun p14 => qb6 p14 H fun b15 H15 => k b15 H15)) (k false H)
theorem qbw.link {x0 : Option Addr} {H : AH} {k : Bool → AH → Prop} (h : qbw.b x0 H k) : qbw x0 H k := lk1 pan hT hm Tryz.func44 (by kernel_rfl) (A := ann0) (by kernel_rfl) (by simp) (by kernel_rfl) h
def qbc.b (x0 : Sl) (H : AH) (k : Sl → AH → Prop) : Prop :=
 bcase (ql1 x0.a) (k ⟨none, 0, 0⟩ H) (newC H ⟨[], .rw, 1⟩ fun o5 H5 => appendC 1 H5 ⟨(some ⟨o5, 0, none⟩), 0, 1⟩ x0 fun s7 H7 => k s7 H7)
theorem qbc.link {x0 : Sl} {H : AH} {k : Sl → AH → Prop} (h : qbc.b x0 H k) : qbc x0 H k := lk1 pan hT hm Tryz.func108 (by kernel_rfl) (A := ann0) (by kernel_rfl) (by simp) (by kernel_rfl) h
def qb8.b (x0 : Option Addr) (H : AH) (k : Sl → AH → Prop) : Prop :=
 bcase (ql1 x0) (k ⟨none, 0, 0⟩ H) (onPtr x0 fun a6 => elL (AH.cell? H (qlm a6 1)) fun s8 => qbc s8 H fun s9 H9 => k s9 H9)
theorem qb8.link {x0 : Option Addr} {H : AH} {k : Sl → AH → Prop} (h : qb8.b x0 H k) : qb8 x0 H k := lk1 pan hT hm Tryz.func57 (by kernel_rfl) (A := ann0) (by kernel_rfl) (by simp) (by kernel_rfl) h
def qbd.b (x0 : Option Addr) (H : AH) (k : Sl → AH → Prop) : Prop :=
 bcase (ql1 x0) (k ⟨none, 0, 0⟩ H) (onPtr x0 fun a6 => elP (AH.cell? H (qlm a6 7)) fun p8 => qb8 p8 H fun s9 H9 => k s9 H9)
theorem qbd.link {x0 : Option Addr} {H : AH} {k : Sl → AH → Prop} (h : qbd.b x0 H k) : qbd x0 H k := lk1 pan hT hm Tryz.func20 (by kernel_rfl) (A := ann0) (by kernel_rfl) (by simp) (by kernel_rfl) h
def qbk.b (H : AH) (k : Bool → AH → Prop) : Prop :=
 qaZ [(qlk .i64 (4 : Int)), (qlk .i64 (0 : Int)), (qlk .i64 (3 : Int)), (qlk .i64 (2 : Int))] ⟨none, 0, 0⟩ H fun p8a p8b H8 => bcase (ql1 p8a) (k false H8) (qu p8a [(qlk .i64 (1 : Int)), (qlk .i64 (0 : Int)), (qlk .i64 (8 : Int)), (qlk .i64 (0 : Int)), (qlR none 0 0)] H8 fun c15 H15 => newC H15 ⟨[(qlk .i64 (0 : Int)), (qlk .i64 (0 : Int)), (qlR none 0 0)], .rw, 0⟩ fun o3 H3 => (qly c15 = 3 ∧ ql0 c15 qq = true) ∧ stC H3 ⟨o3, 0, none⟩ c15 fun Hs2 => newC Hs2 ⟨[(qlk .u8 (7 : Int))], .rw, 1⟩ fun o17 H17 => qu p8a [(qlk .i64 (4 : Int)), (qlk .i64 (8 : Int)), (qlk .i64 (0 : Int)), (qlk .i64 (0 : Int)), (qlR (some ⟨o17, 0, none⟩) 1 1)] H17 fun c19 H19 => newC H19 ⟨[(qlk .i64 (0 : Int)), (qlk .i64 (0 : Int)), (qlR none 0 0)], .rw, 0⟩ fun o4 H4 => (qly c19 = 3 ∧ ql0 c19 qq = true) ∧ stC H4 ⟨o4, 0, none⟩ c19 fun Hs4 => qu p8a [(qlk .i64 (3 : Int)), (qlk .i64 (8 : Int)), (qlk .i64 (2 : Int)), (qlk .i64 (0 : Int)), (qlR none 0 0)] Hs4 fun c22 H22 => newC H22 ⟨[(qlk .i64 (0 : Int)), (qlk .i64 (0 : Int)), (qlR none 0 0)], .rw, 0⟩ fun o5 H5 => (qly c22 = 3 ∧ ql0 c22 qq = true) ∧ stC H5 ⟨o5, 0, none⟩ c22 fun Hs6 => elI .i64 (AH.cell? Hs6 (qlm ⟨o3, 0, none⟩ 0)) fun n24 => bcase ((n24 : Int) == (0 : Int)) (elI .i64 (AH.cell? Hs6 (qlm ⟨o3, 0, none⟩ 1)) fun n28 => bcase ((n28 : Int) == (8 : Int)) (elI .i64 (AH.cell? Hs6 (qlm ⟨o4, 0, none⟩ 0)) fun n33 => bcase ((n33 : Int) == (0 : Int)) (elL (AH.cell? Hs6 (qlm ⟨o5, 0, none⟩ 2)) fun s38 => strC Hs6 s38 fun y39 => bcase (qmJ ⟨qlU y39⟩ == qmJ ⟨#[7, 0]⟩) (qbw p8a Hs6 fun b44 H44 => bcase (!b44) (qbd p8a H44 fun s49 H49 => k ((((s49.n : Nat) : Int) : Int) == (1 : Int)) H49) (k false H44)) (k false Hs6)) (k false Hs6)) (k false Hs6)) (k false Hs6))
theorem qbk.link {_u : Unit} {H : AH} {k : Bool → AH → Prop} (h : qbk.b  H k) : qbk  H k := lk1 pan hT hm Tryz.func13 (by kernel_rfl) (A := ann0) (by kernel_rfl) (by simp) (by kernel_rfl) h
def qbg.b (x0 : Int) (x1 : Int) (x2 : Int) (x3 : Int) (H : AH) (k : List Value → AH → Prop) : Prop :=
 newC H ⟨[(qlk .i64 (0 : Int)), (qlk .i64 (0 : Int)), (qlk .i64 (0 : Int)), (qlk .i64 (0 : Int))], .rw, 0⟩ fun o8 H8 => ((24 : Int) : Int) ≠ 0 ∧ ((17 : Int) : Int) ≠ 0 ∧ ((30 : Int) : Int) ≠ 0 ∧ ((10 : Int) : Int) ≠ 0 ∧ (qly [(qlk .i64 (qll .i64 ((1 : Int) + (qll .i64 (qmg (qll .u64 x0) (24 : Int)))))), (qlk .i64 (qll .i64 (qmg (qll .u64 x1) (17 : Int)))), (qlk .i64 (qll .i64 ((1 : Int) + (qll .i64 (qmg (qll .u64 x2) (30 : Int)))))), (qlk .i64 (qll .i64 ((1 : Int) + (qll .i64 (qmg (qll .u64 x3) (10 : Int))))))] = 4 ∧ ql0 [(qlk .i64 (qll .i64 ((1 : Int) + (qll .i64 (qmg (qll .u64 x0) (24 : Int)))))), (qlk .i64 (qll .i64 (qmg (qll .u64 x1) (17 : Int)))), (qlk .i64 (qll .i64 ((1 : Int) + (qll .i64 (qmg (qll .u64 x2) (30 : Int)))))), (qlk .i64 (qll .i64 ((1 : Int) + (qll .i64 (qmg (qll .u64 x3) (10 : Int))))))] qq = true) ∧ stC H8 ⟨o8, 0, none⟩ [(qlk .i64 (qll .i64 ((1 : Int) + (qll .i64 (qmg (qll .u64 x0) (24 : Int)))))), (qlk .i64 (qll .i64 (qmg (qll .u64 x1) (17 : Int)))), (qlk .i64 (qll .i64 ((1 : Int) + (qll .i64 (qmg (qll .u64 x2) (30 : Int)))))), (qlk .i64 (qll .i64 ((1 : Int) + (qll .i64 (qmg (qll .u64 x3) (10 : Int))))))] fun Hs2 => ldA Hs2 ⟨o8, 0, none⟩ 4 fun r0 => k r0 Hs2
theorem qbg.link {x0 : Int} {x1 : Int} {x2 : Int} {x3 : Int} {H : AH} {k : List Value → AH → Prop} (h : qbg.b x0 x1 x2 x3 H k) : qbg x0 x1 x2 x3 H k := lk1 pan hT hm Tryz.func14 (by kernel_rfl) (A := ann0) (by kernel_rfl) (by simp) (by kernel_rfl) h
def qap.b (x0 : List Value) (x1 : List Value) (H : AH) (k : Bool → AH → Prop) : Prop :=
 newC H ⟨x0, .rw, 0⟩ fun o2 H2 => newC H2 ⟨x1, .rw, 0⟩ fun o3 H3 => elI .i64 (AH.cell? H3 (qlm ⟨o2, 0, none⟩ 0)) fun n6 => elI .i64 (AH.cell? H3 (qlm ⟨o3, 0, none⟩ 0)) fun n8 => bcase ((n6 : Int) == n8) (elI .i64 (AH.cell? H3 (qlm ⟨o2, 0, none⟩ 1)) fun n12 => elI .i64 (AH.cell? H3 (qlm ⟨o3, 0, none⟩ 1)) fun n14 => bcase ((n12 : Int) == n14) (elL (AH.cell? H3 (qlm ⟨o2, 0, none⟩ 2)) fun s19 => strC H3 s19 fun y20 => elL (AH.cell? H3 (qlm ⟨o3, 0, none⟩ 2)) fun s22 => strC H3 s22 fun y23 => k (qmJ ⟨qlU y20⟩ == qmJ ⟨qlU y23⟩) H3) (k false H3)) (k false H3)
theorem qap.link {x0 : List Value} {x1 : List Value} {H : AH} {k : Bool → AH → Prop} (h : qap.b x0 x1 H k) : qap x0 x1 H k := lk1 pan hT hm Tryz.func16 (by kernel_rfl) (A := ann0) (by kernel_rfl) (by simp) (by kernel_rfl) h
def qZ.j1 (x0 : Int) (H : AH) (k : Int → AH → Prop) (x8 : Bool) : Prop :=
 bcase x8 (k (0 : Int) H) (((8 : Int) : Int) ≠ 0 ∧ k (qll .i64 ((1 : Int) + (qll .i64 (qmo (qll .i64 (x0 + (7 : Int))) (8 : Int))))) H)
def qZ.b (x0 : Int) (H : AH) (k : Int → AH → Prop) : Prop :=
 bcase (decide ((x0 : Int) < (1 : Int))) (qZ.j1 x0 H k true) (qZ.j1 x0 H k (decide ((x0 : Int) > (448 : Int))))
theorem qZ.link {x0 : Int} {H : AH} {k : Int → AH → Prop} (h : qZ.b x0 H k) : qZ x0 H k := lk1 pan hT hm Tryz.func58 (by kernel_rfl) (A := ann0) (by kernel_rfl) (by simp) (by kernel_rfl) h
def qar.j1 (x0 : Int) (H : AH) (k : Int → Bool → Bool → AH → Prop) (x12 : Bool) : Prop :=
 bcase x12 (k (0 : Int) false false H) ((0 : Int) ≤ (1 : Int) ∧ k (qll .i64 (shrI .u64 x0 (1 : Int))) (((andI .u64 x0 (1 : Int)) : Int) == (1 : Int)) true H)
def qar.b (x0 : Int) (H : AH) (k : Int → Bool → Bool → AH → Prop) : Prop :=
 (0 : Int) ≤ (1 : Int) ∧ bcase (decide (((shrI .u64 x0 (1 : Int)) : Int) < (2 : Int))) (qar.j1 x0 H k true) ((0 : Int) ≤ (1 : Int) ∧ qar.j1 x0 H k (decide (((shrI .u64 x0 (1 : Int)) : Int) > (512 : Int))))
theorem qar.link {x0 : Int} {H : AH} {k : Int → Bool → Bool → AH → Prop} (h : qar.b x0 H k) : qar x0 H k := lk3 pan hT hm Tryz.func109 (by kernel_rfl) (A := ann0) (by kernel_rfl) (by simp) (by simp) (by simp) (by kernel_rfl) h
def qau.b (x0 : Int) (H : AH) (k : Bool → AH → Prop) : Prop :=
 bcase (decide ((x0 : Int) ≥ (8 : Int))) (bcase (decide ((x0 : Int) ≤ (512 : Int))) (((8 : Int) : Int) ≠ 0 ∧ k (((qmg x0 (8 : Int)) : Int) == (0 : Int)) H) (k false H)) (k false H)
theorem qau.link {x0 : Int} {H : AH} {k : Bool → AH → Prop} (h : qau.b x0 H k) : qau x0 H k := lk1 pan hT hm Tryz.func68 (by kernel_rfl) (A := ann0) (by kernel_rfl) (by simp) (by kernel_rfl) h
def qaU.b (x0 : Int) (H : AH) (k : Bool → AH → Prop) : Prop :=
 bcase (decide ((x0 : Int) ≥ (2 : Int))) (k (decide ((x0 : Int) ≤ (512 : Int))) H) (k false H)
theorem qaU.link {x0 : Int} {H : AH} {k : Bool → AH → Prop} (h : qaU.b x0 H k) : qaU x0 H k := lk1 pan hT hm Tryz.func116 (by kernel_rfl) (A := ann0) (by kernel_rfl) (by simp) (by kernel_rfl) h
def qr.j1 (k : Bool → AH → Prop) (t5 : Bool × Int × Int) (it5 : (Bool × Int × Int) → AH → Prop) (o7 : Nat) (x53 : Bool) (Hj : AH) : Prop :=
 bcase x53 (k false Hj) (elI .i64 (AH.cell? Hj (qlm ⟨o7, 0, none⟩ 1)) fun n56 => it5 (t5.1, (qll .i64 (t5.2.1 + n56)), (qll .i64 (t5.2.2 + (1 : Int)))) Hj)
def qr.l2 (x0 : Sl) (x1 : Int) (k : Bool → AH → Prop) (t5 : Bool × Int × Int) (HL5 : AH) (it5 : (Bool × Int × Int) → AH → Prop) : Prop :=
 bcase (decide ((t5.2.2 : Int) < ((x0.n : Nat) : Int))) ((0 ≤ t5.2.2 ∧ t5.2.2 < ((x0.n : Nat) : Int)) ∧ onPtr x0.a fun a16 => ldA HL5 (qlm a16 (qlr t5.2.2 * 3)) 3 fun c17 => newC HL5 ⟨[(qlk .i64 (0 : Int)), (qlk .i64 (0 : Int)), (qlW false)], .rw, 0⟩ fun o7 H7 => (qly c17 = 3 ∧ ql0 c17 qq = true) ∧ stC H7 ⟨o7, 0, none⟩ c17 fun Hs2 => elI .i64 (AH.cell? Hs2 (qlm ⟨o7, 0, none⟩ 0)) fun n19 => bcase ((n19 : Int) != t5.2.1) (qr.j1 k t5 it5 o7 true Hs2) (elI .i64 (AH.cell? Hs2 (qlm ⟨o7, 0, none⟩ 1)) fun n24 => qaU n24 Hs2 fun b25 H25 => bcase (!b25) (qr.j1 k t5 it5 o7 true H25) (elI .i64 (AH.cell? H25 (qlm ⟨o7, 0, none⟩ 1)) fun n30 => bcase (decide ((n30 : Int) > (qll .i64 (x1 - t5.2.1)))) (qr.j1 k t5 it5 o7 true H25) (bcase (decide ((t5.2.2 : Int) > (0 : Int))) (elB (AH.cell? H25 (qlm ⟨o7, 0, none⟩ 2)) fun b41 => bcase (!b41) ((0 ≤ (qll .i64 (t5.2.2 - (1 : Int))) ∧ (qll .i64 (t5.2.2 - (1 : Int))) < ((x0.n : Nat) : Int)) ∧ onPtr x0.a fun a48 => elB (AH.cell? H25 (qlm (qlm a48 (qlr (qll .i64 (t5.2.2 - (1 : Int))) * 3)) 2)) fun b50 => qr.j1 k t5 it5 o7 (!b50) H25) (qr.j1 k t5 it5 o7 false H25)) (qr.j1 k t5 it5 o7 false H25))))) (k ((t5.2.1 : Int) == x1) HL5)
def qr.b (x0 : Sl) (x1 : Int) (H : AH) (k : Bool → AH → Prop) : Prop :=
 qau x1 H fun b9 H9 => bcase (!b9) (k false H9) (loopT (qr.l2 x0 x1 k) ((false, (0 : Int), (0 : Int)) : Bool × Int × Int) H9)
def qr.ann : Ann := { keep := fun r => match r with | 5 => [(4, .bool), (5, .int .i64), (13, .int .i64)] | _ => [], ord := fun r => match r with  | _ => [] }
theorem qr.link {x0 : Sl} {x1 : Int} {H : AH} {k : Bool → AH → Prop} (h : qr.b x0 x1 H k) : qr x0 x1 H k := lk1 pan hT hm Tryz.func110 (by kernel_rfl) (A := qr.ann) (by kernel_rfl) (by simp) (by kernel_rfl) h
def qH.j1 (x0 : Sl) (k : Sl → Bool → AH → Prop) (t3 : Sl × Bool × Sl × Int) (HL3 : AH) : Prop :=
 qr t3.2.2.1 ((x0.n : Nat) : Int) HL3 fun b37 H37 => bcase (!b37) (k ⟨none, 0, 0⟩ false H37) (k t3.2.2.1 true H37)
def qH.l2 (x0 : Sl) (k : Sl → Bool → AH → Prop) (t3 : Sl × Bool × Sl × Int) (HL3 : AH) (it3 : (Sl × Bool × Sl × Int) → AH → Prop) : Prop :=
 bcase (decide ((t3.2.2.2 : Int) < ((x0.n : Nat) : Int))) ((0 ≤ t3.2.2.2 ∧ t3.2.2.2 < ((x0.n : Nat) : Int)) ∧ onPtr x0.a fun a16 => elI .u64 (AH.cell? HL3 (qlm a16 (qlr t3.2.2.2 * 1))) fun n17 => qar n17 HL3 fun n18a b18b b18c H18 => bcase (!b18c) (k ⟨none, 0, 0⟩ false H18) ((qly [(qlk .i64 t3.2.2.2), (qlk .i64 n18a), (qlW b18b)] = 3) ∧ newC H18 ⟨[(qlk .i64 t3.2.2.2), (qlk .i64 n18a), (qlW b18b)], .rw, 3⟩ fun o29 H29 => appendC 3 H29 t3.2.2.1 ⟨(some ⟨o29, 0, none⟩), 1, 1⟩ fun s30 H30 => it3 (t3.1, t3.2.1, s30, (qll .i64 (t3.2.2.2 + n18a))) H30)) (qH.j1 x0 k t3 HL3)
def qH.b (x0 : Sl) (H : AH) (k : Sl → Bool → AH → Prop) : Prop :=
 loopT (qH.l2 x0 k) ((⟨none, 0, 0⟩, false, ⟨none, 0, 0⟩, (0 : Int)) : Sl × Bool × Sl × Int) H
def qH.ann : Ann := { keep := fun r => match r with | 3 => [(2, .sl), (3, .bool), (4, .sl), (5, .int .i64)] | _ => [], ord := fun r => match r with  | _ => [] }
theorem qH.link {x0 : Sl} {H : AH} {k : Sl → Bool → AH → Prop} (h : qH.b x0 H k) : qH x0 H k := lk2 pan hT hm Tryz.func59 (by kernel_rfl) (A := qH.ann) (by kernel_rfl) (by simp) (by simp) (by kernel_rfl) h
def qx.j1 (t5 : Sl × Int) (it5 : (Sl × Int) → AH → Prop) (Hs2 : AH) (x5 : Sl) (x54 : Bool) : Prop :=
 bcase x54 (newC Hs2 ⟨[(qlk .i64 t5.2)], .rw, 1⟩ fun o57 H57 => appendC 1 H57 x5 ⟨(some ⟨o57, 0, none⟩), 1, 1⟩ fun s58 H58 => it5 (s58, (qll .i64 (t5.2 + (1 : Int)))) H58) (it5 (x5, (qll .i64 (t5.2 + (1 : Int)))) Hs2)
def qx.j2 (x0 : Sl) (t5 : Sl × Int) (it5 : (Sl × Int) → AH → Prop) (o7 : Nat) (Hs2 : AH) (x5 : Sl) : Prop :=
 bcase ((((x5.n : Nat) : Int) : Int) == (0 : Int)) (qx.j1 t5 it5 Hs2 x5 true) ((0 ≤ (0 : Int) ∧ (0 : Int) < ((x5.n : Nat) : Int)) ∧ onPtr x5.a fun a46 => elI .i64 (AH.cell? Hs2 (qlm a46 (qlr (0 : Int) * 1))) fun n47 => (0 ≤ n47 ∧ n47 < ((x0.n : Nat) : Int)) ∧ onPtr x0.a fun a48 => elI .i64 (AH.cell? Hs2 (qlm (qlm a48 (qlr n47 * 3)) 1)) fun n50 => elI .i64 (AH.cell? Hs2 (qlm ⟨o7, 0, none⟩ 1)) fun n52 => qx.j1 t5 it5 Hs2 x5 ((n50 : Int) == n52))
def qx.j3 (x0 : Sl) (t5 : Sl × Int) (it5 : (Sl × Int) → AH → Prop) (o7 : Nat) (Hs2 : AH) (x39 : Bool) : Prop :=
 bcase x39 (qx.j2 x0 t5 it5 o7 Hs2 ⟨none, 0, 0⟩) (qx.j2 x0 t5 it5 o7 Hs2 t5.1)
def qx.j4 (x0 : Sl) (t5 : Sl × Int) (it5 : (Sl × Int) → AH → Prop) (o7 : Nat) (Hs2 : AH) (x24 : Bool) : Prop :=
 bcase x24 (it5 (t5.1, (qll .i64 (t5.2 + (1 : Int)))) Hs2) (bcase (decide ((((t5.1.n : Nat) : Int) : Int) > (0 : Int))) ((0 ≤ (0 : Int) ∧ (0 : Int) < ((t5.1.n : Nat) : Int)) ∧ onPtr t5.1.a fun a31 => elI .i64 (AH.cell? Hs2 (qlm a31 (qlr (0 : Int) * 1))) fun n32 => (0 ≤ n32 ∧ n32 < ((x0.n : Nat) : Int)) ∧ onPtr x0.a fun a33 => elI .i64 (AH.cell? Hs2 (qlm (qlm a33 (qlr n32 * 3)) 1)) fun n35 => elI .i64 (AH.cell? Hs2 (qlm ⟨o7, 0, none⟩ 1)) fun n37 => qx.j3 x0 t5 it5 o7 Hs2 (decide ((n35 : Int) > n37))) (qx.j3 x0 t5 it5 o7 Hs2 false))
def qx.l5 (x0 : Sl) (x1 : Int) (k : Sl → AH → Prop) (t5 : Sl × Int) (HL5 : AH) (it5 : (Sl × Int) → AH → Prop) : Prop :=
 bcase (decide ((t5.2 : Int) < ((x0.n : Nat) : Int))) ((0 ≤ t5.2 ∧ t5.2 < ((x0.n : Nat) : Int)) ∧ onPtr x0.a fun a15 => ldA HL5 (qlm a15 (qlr t5.2 * 3)) 3 fun c16 => newC HL5 ⟨[(qlk .i64 (0 : Int)), (qlk .i64 (0 : Int)), (qlW false)], .rw, 0⟩ fun o7 H7 => (qly c16 = 3 ∧ ql0 c16 qq = true) ∧ stC H7 ⟨o7, 0, none⟩ c16 fun Hs2 => elB (AH.cell? Hs2 (qlm ⟨o7, 0, none⟩ 2)) fun b18 => bcase b18 (qx.j4 x0 t5 it5 o7 Hs2 true) (elI .i64 (AH.cell? Hs2 (qlm ⟨o7, 0, none⟩ 1)) fun n21 => qx.j4 x0 t5 it5 o7 Hs2 (decide ((n21 : Int) < x1)))) (k t5.1 HL5)
def qx.b (x0 : Sl) (x1 : Int) (H : AH) (k : Sl → AH → Prop) : Prop :=
 bcase (decide ((x1 : Int) < (2 : Int))) (k ⟨none, 0, 0⟩ H) (loopT (qx.l5 x0 x1 k) ((⟨none, 0, 0⟩, (0 : Int)) : Sl × Int) H)
def qx.ann : Ann := { keep := fun r => match r with | 5 => [(5, .sl), (12, .int .i64)] | _ => [], ord := fun r => match r with | 8 => [0, 1, 2, 3, 4, 5, 6, 7, 8, 9, 10, 11, 12, 13, 14] | 10 => [0, 1, 2, 3, 4, 5, 6, 7, 8, 9, 10, 11, 12, 13, 14] | _ => [] }
theorem qx.link {x0 : Sl} {x1 : Int} {H : AH} {k : Sl → AH → Prop} (h : qx.b x0 x1 H k) : qx x0 x1 H k := lk1 pan hT hm Tryz.func111 (by kernel_rfl) (A := qx.ann) (by kernel_rfl) (by simp) (by kernel_rfl) h
def qR.j1 (x0 : Int) (x1 : Sl) (H : AH) (k : Int → AH → Prop) (x13 : Bool) : Prop :=
 bcase x13 (k (0 : Int) H) (((32 : Int) : Int) ≠ 0 ∧ (0 ≤ (qll .i64 (qmo x0 (32 : Int))) ∧ (qll .i64 (qmo x0 (32 : Int))) < ((x1.n : Nat) : Int)) ∧ onPtr x1.a fun a17 => elI .i64 (AH.cell? H (qlm a17 (qlr (qll .i64 (qmo x0 (32 : Int))) * 1))) fun n18 => k n18 H)
def qR.b (x0 : Int) (x1 : Sl) (H : AH) (k : Int → AH → Prop) : Prop :=
 bcase (decide ((x0 : Int) < (0 : Int))) (qR.j1 x0 x1 H k true) (((32 : Int) : Int) ≠ 0 ∧ qR.j1 x0 x1 H k (decide (((qll .i64 (qmo x0 (32 : Int))) : Int) ≥ ((x1.n : Nat) : Int))))
theorem qR.link {x0 : Int} {x1 : Sl} {H : AH} {k : Int → AH → Prop} (h : qR.b x0 x1 H k) : qR x0 x1 H k := lk1 pan hT hm Tryz.func112 (by kernel_rfl) (A := ann0) (by kernel_rfl) (by simp) (by kernel_rfl) h
def qQ.j1 (t3 : Int × Int) (it3 : (Int × Int) → AH → Prop) (n17 : Int) (x66 : Bool) (Hj : AH) : Prop :=
 bcase x66 (it3 (n17, (qll .i64 (t3.2 + (1 : Int)))) Hj) (it3 (t3.1, (qll .i64 (t3.2 + (1 : Int)))) Hj)
def qQ.l2 (x0 : Sl) (x2 : Sl) (k : Int → AH → Prop) (s12 : Sl) (t3 : Int × Int) (HL3 : AH) (it3 : (Int × Int) → AH → Prop) : Prop :=
 bcase (decide ((t3.2 : Int) < ((s12.n : Nat) : Int))) ((0 ≤ t3.2 ∧ t3.2 < ((s12.n : Nat) : Int)) ∧ onPtr s12.a fun a16 => elI .i64 (AH.cell? HL3 (qlm a16 (qlr t3.2 * 1))) fun n17 => bcase (decide ((t3.1 : Int) < (0 : Int))) (qQ.j1 t3 it3 n17 true HL3) ((0 ≤ n17 ∧ n17 < ((x0.n : Nat) : Int)) ∧ onPtr x0.a fun a23 => elI .i64 (AH.cell? HL3 (qlm (qlm a23 (qlr n17 * 3)) 0)) fun n25 => (0 ≤ t3.1 ∧ t3.1 < ((x0.n : Nat) : Int)) ∧ onPtr x0.a fun a30 => elI .i64 (AH.cell? HL3 (qlm (qlm a30 (qlr t3.1 * 3)) 0)) fun n32 => qR n25 x2 HL3 fun n27 H27 => AH.cell? H27 (qlm (qlm a30 (qlr t3.1 * 3)) 0) = some (qlk .i64 n32) ∧ qR n32 x2 H27 fun n34 H34 => bcase (decide ((n27 : Int) < n34)) (qQ.j1 t3 it3 n17 true H34) ((0 ≤ n17 ∧ n17 < ((x0.n : Nat) : Int)) ∧ onPtr x0.a fun a40 => elI .i64 (AH.cell? H34 (qlm (qlm a40 (qlr n17 * 3)) 0)) fun n42 => (0 ≤ t3.1 ∧ t3.1 < ((x0.n : Nat) : Int)) ∧ onPtr x0.a fun a47 => elI .i64 (AH.cell? H34 (qlm (qlm a47 (qlr t3.1 * 3)) 0)) fun n49 => qR n42 x2 H34 fun n44 H44 => AH.cell? H44 (qlm (qlm a47 (qlr t3.1 * 3)) 0) = some (qlk .i64 n49) ∧ qR n49 x2 H44 fun n51 H51 => bcase ((n44 : Int) == n51) ((0 ≤ n17 ∧ n17 < ((x0.n : Nat) : Int)) ∧ onPtr x0.a fun a56 => elI .i64 (AH.cell? H51 (qlm (qlm a56 (qlr n17 * 3)) 0)) fun n58 => (0 ≤ t3.1 ∧ t3.1 < ((x0.n : Nat) : Int)) ∧ onPtr x0.a fun a61 => elI .i64 (AH.cell? H51 (qlm (qlm a61 (qlr t3.1 * 3)) 0)) fun n63 => qQ.j1 t3 it3 n17 (decide ((n58 : Int) < n63)) H51) (qQ.j1 t3 it3 n17 false H51)))) (k t3.1 HL3)
def qQ.b (x0 : Sl) (x1 : Int) (x2 : Sl) (H : AH) (k : Int → AH → Prop) : Prop :=
 qx x0 x1 H fun s12 H12 => loopT (qQ.l2 x0 x2 k s12) (((-1 : Int), (0 : Int)) : Int × Int) H12
def qQ.ann : Ann := { keep := fun r => match r with | 3 => [(7, .int .i64), (14, .int .i64)] | _ => [], ord := fun r => match r with | 5 => [0, 1, 2, 3, 4, 5, 6, 7, 8, 10, 11, 12, 13, 14, 15, 9, 16, 17, 18, 19, 20, 21, 22, 23, 24, 25, 27, 28, 29, 30, 31, 32, 26, 33, 34, 35, 36, 37, 38, 39, 40, 41, 42, 43, 44, 45, 46, 47, 48] | _ => [] }
theorem qQ.link {x0 : Sl} {x1 : Int} {x2 : Sl} {H : AH} {k : Int → AH → Prop} (h : qQ.b x0 x1 x2 H k) : qQ x0 x1 x2 H k := lk1 pan hT hm Tryz.func60 (by kernel_rfl) (A := qQ.ann) (by kernel_rfl) (by simp) (by kernel_rfl) h
def qV.j1 (k : Int → AH → Prop) (t3 : Int × Int × Int) (it3 : (Int × Int × Int) → AH → Prop) (o5 : Nat) (Hs2 : AH) (x19 : Bool) : Prop :=
 bcase x19 (k (0 : Int) Hs2) (elI .i64 (AH.cell? Hs2 (qlm ⟨o5, 0, none⟩ 1)) fun n22 => it3 (t3.1, (qll .i64 (t3.2.1 + n22)), (qll .i64 (t3.2.2 + (1 : Int)))) Hs2)
def qV.l2 (x0 : Sl) (k : Int → AH → Prop) (t3 : Int × Int × Int) (HL3 : AH) (it3 : (Int × Int × Int) → AH → Prop) : Prop :=
 bcase (decide ((t3.2.2 : Int) < ((x0.n : Nat) : Int))) ((0 ≤ t3.2.2 ∧ t3.2.2 < ((x0.n : Nat) : Int)) ∧ onPtr x0.a fun a10 => ldA HL3 (qlm a10 (qlr t3.2.2 * 3)) 3 fun c11 => newC HL3 ⟨[(qlk .i64 (0 : Int)), (qlk .i64 (0 : Int)), (qlW false)], .rw, 0⟩ fun o5 H5 => (qly c11 = 3 ∧ ql0 c11 qq = true) ∧ stC H5 ⟨o5, 0, none⟩ c11 fun Hs2 => elI .i64 (AH.cell? Hs2 (qlm ⟨o5, 0, none⟩ 1)) fun n13 => bcase (decide ((n13 : Int) < (0 : Int))) (qV.j1 k t3 it3 o5 Hs2 true) (elI .i64 (AH.cell? Hs2 (qlm ⟨o5, 0, none⟩ 1)) fun n17 => qV.j1 k t3 it3 o5 Hs2 (decide ((n17 : Int) > (1000 : Int))))) (k t3.2.1 HL3)
def qV.b (x0 : Sl) (H : AH) (k : Int → AH → Prop) : Prop :=
 loopT (qV.l2 x0 k) (((0 : Int), (0 : Int), (0 : Int)) : Int × Int × Int) H
def qV.ann : Ann := { keep := fun r => match r with | 3 => [(2, .int .i64), (3, .int .i64), (8, .int .i64)] | _ => [], ord := fun r => match r with  | _ => [] }
theorem qV.link {x0 : Sl} {H : AH} {k : Int → AH → Prop} (h : qV.b x0 H k) : qV x0 H k := lk1 pan hT hm Tryz.func115 (by kernel_rfl) (A := qV.ann) (by kernel_rfl) (by simp) (by kernel_rfl) h
def qao.j1 (x0 : Int) (x1 : Int) (H : AH) (k : Int → AH → Prop) (x5 : Bool) : Prop :=
 bcase x5 (k (0 : Int) H) (bcase (decide (((qll .i64 (x0 - x1)) : Int) < (2 : Int))) (k x0 H) (k x1 H))
def qao.b (x0 : Int) (x1 : Int) (H : AH) (k : Int → AH → Prop) : Prop :=
 bcase (decide ((x1 : Int) < (2 : Int))) (qao.j1 x0 x1 H k true) (qao.j1 x0 x1 H k (decide ((x1 : Int) > x0)))
theorem qao.link {x0 : Int} {x1 : Int} {H : AH} {k : Int → AH → Prop} (h : qao.b x0 x1 H k) : qao x0 x1 H k := lk1 pan hT hm Tryz.func114 (by kernel_rfl) (A := ann0) (by kernel_rfl) (by simp) (by kernel_rfl) h
def qK.j1 (x0 : Sl) (x1 : Int) (k : Sl → Bool → AH → Prop) (x9 : Sl) (Hj : AH) : Prop :=
 (0 ≤ (qll .i64 (x1 + (1 : Int))) ∧ (qll .i64 (x1 + (1 : Int))) ≤ ((x0.n : Nat) : Int)) ∧ appendC 3 Hj x9 ⟨(Option.map (fun x => qlm x (qlr (qll .i64 (x1 + (1 : Int))) * 3)) x0.a), (x0.n - qlr (qll .i64 (x1 + (1 : Int)))), 0⟩ fun s92 H92 => k s92 true H92
def qK.j2 (x0 : Sl) (x1 : Int) (x2 : Int) (k : Sl → Bool → AH → Prop) (x41 : Bool) (Hj : AH) : Prop :=
 bcase x41 (k ⟨none, 0, 0⟩ false Hj) ((0 ≤ x1 ∧ x1 < ((x0.n : Nat) : Int)) ∧ onPtr x0.a fun a44 => elI .i64 (AH.cell? Hj (qlm (qlm a44 (qlr x1 * 3)) 1)) fun n46 => qao n46 x2 Hj fun n48 H48 => (0 ≤ x1 ∧ x1 ≤ ((x0.n : Nat) : Int)) ∧ (0 ≤ x1 ∧ x1 < ((x0.n : Nat) : Int)) ∧ onPtr x0.a fun a55 => elI .i64 (AH.cell? H48 (qlm (qlm a55 (qlr x1 * 3)) 0)) fun n57 => (qly [(qlk .i64 n57), (qlk .i64 n48), (qlW true)] = 3) ∧ newC H48 ⟨[(qlk .i64 n57), (qlk .i64 n48), (qlW true)], .rw, 3⟩ fun o60 H60 => appendC 3 H60 ⟨none, 0, 0⟩ ⟨x0.a, (qlr x1), 0⟩ fun s52 H52 => AH.cell? H52 (qlm (qlm a55 (qlr x1 * 3)) 0) = some (qlk .i64 n57) ∧ appendC 3 H52 s52 ⟨(some ⟨o60, 0, none⟩), 1, 1⟩ fun s61 H61 => (0 ≤ x1 ∧ x1 < ((x0.n : Nat) : Int)) ∧ onPtr x0.a fun a65 => elI .i64 (AH.cell? H61 (qlm (qlm a65 (qlr x1 * 3)) 1)) fun n67 => bcase (decide ((n48 : Int) < n67)) ((0 ≤ x1 ∧ x1 < ((x0.n : Nat) : Int)) ∧ onPtr x0.a fun a72 => elI .i64 (AH.cell? H61 (qlm (qlm a72 (qlr x1 * 3)) 0)) fun n74 => (0 ≤ x1 ∧ x1 < ((x0.n : Nat) : Int)) ∧ onPtr x0.a fun a79 => elI .i64 (AH.cell? H61 (qlm (qlm a79 (qlr x1 * 3)) 1)) fun n81 => (qly [(qlk .i64 (qll .i64 (n74 + n48))), (qlk .i64 (qll .i64 (n81 - n48))), (qlW false)] = 3) ∧ newC H61 ⟨[(qlk .i64 (qll .i64 (n74 + n48))), (qlk .i64 (qll .i64 (n81 - n48))), (qlW false)], .rw, 3⟩ fun o85 H85 => appendC 3 H85 s61 ⟨(some ⟨o85, 0, none⟩), 1, 1⟩ fun s86 H86 => qK.j1 x0 x1 k s86 H86) (qK.j1 x0 x1 k s61 H61))
def qK.b (x0 : Sl) (x1 : Int) (x2 : Int) (H : AH) (k : Sl → Bool → AH → Prop) : Prop :=
 qV x0 H fun n12 H12 => qr x0 n12 H12 fun b13 H13 => bcase (!b13) (qK.j2 x0 x1 x2 k true H13) (bcase (decide ((x1 : Int) < (0 : Int))) (qK.j2 x0 x1 x2 k true H13) (bcase (decide ((x1 : Int) ≥ ((x0.n : Nat) : Int))) (qK.j2 x0 x1 x2 k true H13) ((0 ≤ x1 ∧ x1 < ((x0.n : Nat) : Int)) ∧ onPtr x0.a fun a28 => elB (AH.cell? H13 (qlm (qlm a28 (qlr x1 * 3)) 2)) fun b30 => bcase b30 (qK.j2 x0 x1 x2 k true H13) ((0 ≤ x1 ∧ x1 < ((x0.n : Nat) : Int)) ∧ onPtr x0.a fun a35 => elI .i64 (AH.cell? H13 (qlm (qlm a35 (qlr x1 * 3)) 1)) fun n37 => qao n37 x2 H13 fun n39 H39 => qK.j2 x0 x1 x2 k ((n39 : Int) == (0 : Int)) H39))))
def qK.ann : Ann := { keep := fun r => match r with  | _ => [], ord := fun r => match r with | 4 => [0, 1, 2, 4, 5, 6, 7, 8, 9, 10, 11, 3, 12, 13] | 6 => [0, 1, 2, 3, 4, 5, 6, 7, 8, 9, 10, 11, 12, 13, 14, 15, 16, 17, 18] | _ => [] }
theorem qK.link {x0 : Sl} {x1 : Int} {x2 : Int} {H : AH} {k : Sl → Bool → AH → Prop} (h : qK.b x0 x1 x2 H k) : qK x0 x1 x2 H k := lk2 pan hT hm Tryz.func113 (by kernel_rfl) (A := qK.ann) (by kernel_rfl) (by simp) (by simp) (by kernel_rfl) h
def qaG.b (x0 : Int) (x1 : Bool) (H : AH) (k : Int → AH → Prop) : Prop :=
 qaU x0 H fun b7 H7 => bcase (!b7) (k (0 : Int) H7) ((0 : Int) ≤ (1 : Int) ∧ bcase x1 (k (orI .u64 (shlI .u64 (qll .u64 x0) (1 : Int)) (1 : Int)) H7) (k (shlI .u64 (qll .u64 x0) (1 : Int)) H7))
theorem qaG.link {x0 : Int} {x1 : Bool} {H : AH} {k : Int → AH → Prop} (h : qaG.b x0 x1 H k) : qaG x0 x1 H k := lk1 pan hT hm Tryz.func65 (by kernel_rfl) (A := ann0) (by kernel_rfl) (by simp) (by kernel_rfl) h
def qI.j1 (x0 : Sl) (x1 : Int) (k : Sl → AH → Prop) (n27 : Int) (t7 : Sl × Int) (HL7 : AH) : Prop :=
 (0 ≤ x1 ∧ x1 < ((x0.n : Nat) : Int)) ∧ onPtr x0.a fun a56 => elI .i64 (AH.cell? HL7 (qlm (qlm a56 (qlr x1 * 3)) 1)) fun n58 => bcase (decide ((n27 : Int) < n58)) ((0 ≤ x1 ∧ x1 < ((x0.n : Nat) : Int)) ∧ onPtr x0.a fun a63 => elI .i64 (AH.cell? HL7 (qlm (qlm a63 (qlr x1 * 3)) 0)) fun n65 => (0 ≤ x1 ∧ x1 < ((x0.n : Nat) : Int)) ∧ onPtr x0.a fun a70 => elI .i64 (AH.cell? HL7 (qlm (qlm a70 (qlr x1 * 3)) 1)) fun n72 => qaG (qll .i64 (n72 - n27)) false HL7 fun n75 H75 => AH.cell? H75 (qlm (qlm a63 (qlr x1 * 3)) 0) = some (qlk .i64 n65) ∧ (qly [(qlk .i64 (qll .i64 (n65 + n27))), (qlk .u64 n75)] = 2) ∧ newC H75 ⟨[(qlk .i64 (qll .i64 (n65 + n27))), (qlk .u64 n75)], .rw, 2⟩ fun o77 H77 => appendC 2 H77 t7.1 ⟨(some ⟨o77, 0, none⟩), 1, 1⟩ fun s78 H78 => k s78 H78) (k t7.1 HL7)
def qI.l2 (x0 : Sl) (x1 : Int) (k : Sl → AH → Prop) (n27 : Int) (t7 : Sl × Int) (HL7 : AH) (it7 : (Sl × Int) → AH → Prop) : Prop :=
 bcase (decide ((t7.2 : Int) < n27)) ((0 ≤ x1 ∧ x1 < ((x0.n : Nat) : Int)) ∧ onPtr x0.a fun a45 => elI .i64 (AH.cell? HL7 (qlm (qlm a45 (qlr x1 * 3)) 0)) fun n47 => (qly [(qlk .i64 (qll .i64 (n47 + t7.2))), (qlk .u64 (0 : Int))] = 2) ∧ newC HL7 ⟨[(qlk .i64 (qll .i64 (n47 + t7.2))), (qlk .u64 (0 : Int))], .rw, 2⟩ fun o51 H51 => appendC 2 H51 t7.1 ⟨(some ⟨o51, 0, none⟩), 1, 1⟩ fun s52 H52 => it7 (s52, (qll .i64 (t7.2 + (1 : Int)))) H52) (qI.j1 x0 x1 k n27 t7 HL7)
def qI.b (x0 : Sl) (x1 : Int) (x2 : Int) (H : AH) (k : Sl → AH → Prop) : Prop :=
 qK x0 x1 x2 H fun s16a b16b H16 => bcase (!b16b) (k ⟨none, 0, 0⟩ H16) ((0 ≤ x1 ∧ x1 < ((x0.n : Nat) : Int)) ∧ onPtr x0.a fun a23 => elI .i64 (AH.cell? H16 (qlm (qlm a23 (qlr x1 * 3)) 1)) fun n25 => qao n25 x2 H16 fun n27 H27 => (0 ≤ x1 ∧ x1 < ((x0.n : Nat) : Int)) ∧ onPtr x0.a fun a30 => elI .i64 (AH.cell? H27 (qlm (qlm a30 (qlr x1 * 3)) 0)) fun n32 => qaG n27 true H27 fun n34 H34 => AH.cell? H34 (qlm (qlm a30 (qlr x1 * 3)) 0) = some (qlk .i64 n32) ∧ (qly [(qlk .i64 n32), (qlk .u64 n34)] = 2) ∧ newC H34 ⟨[(qlk .i64 n32), (qlk .u64 n34)], .rw, 2⟩ fun o36 H36 => loopT (qI.l2 x0 x1 k n27) ((⟨(some ⟨o36, 0, none⟩), 1, 1⟩, (1 : Int)) : Sl × Int) H36)
def qI.ann : Ann := { keep := fun r => match r with | 7 => [(10, .sl), (11, .int .i64)] | _ => [], ord := fun r => match r with | 5 => [0, 1, 2, 3, 4, 5, 6, 7, 8, 9] | 11 => [0, 1, 2, 3, 4, 5, 6, 7, 8, 9, 10, 11, 12, 13, 14, 15, 16, 17, 18, 19] | _ => [] }
theorem qI.link {x0 : Sl} {x1 : Int} {x2 : Int} {H : AH} {k : Sl → AH → Prop} (h : qI.b x0 x1 x2 H k) : qI x0 x1 x2 H k := lk1 pan hT hm Tryz.func61 (by kernel_rfl) (A := qI.ann) (by kernel_rfl) (by simp) (by kernel_rfl) h
def qY.j1 (k : Int → AH → Prop) (o1 : Nat) (H1 : AH) (x10 : Bool) : Prop :=
 bcase x10 (k (0 : Int) H1) (elI .i64 (AH.cell? H1 (qlm ⟨o1, 0, none⟩ 0)) fun n12 => k (qll .i64 ((qll .i64 (n12 + (1 : Int))) * (8 : Int))) H1)
def qY.b (x0 : List Value) (H : AH) (k : Int → AH → Prop) : Prop :=
 newC H ⟨x0, .rw, 0⟩ fun o1 H1 => elI .i64 (AH.cell? H1 (qlm ⟨o1, 0, none⟩ 0)) fun n4 => bcase (decide ((n4 : Int) < (0 : Int))) (qY.j1 k o1 H1 true) (elI .i64 (AH.cell? H1 (qlm ⟨o1, 0, none⟩ 0)) fun n8 => qY.j1 k o1 H1 (decide ((n8 : Int) > (512 : Int))))
theorem qY.link {x0 : List Value} {H : AH} {k : Int → AH → Prop} (h : qY.b x0 H k) : qY x0 H k := lk1 pan hT hm Tryz.func62 (by kernel_rfl) (A := ann0) (by kernel_rfl) (by simp) (by kernel_rfl) h
def qan.b (x0 : Sl) (x1 : Int) (x2 : Sl) (H : AH) (k : Sl → Int → Int → AH → Prop) : Prop :=
 qZ x1 H fun n13 H13 => bcase ((n13 : Int) == (0 : Int)) (k ⟨none, 0, 0⟩ (0 : Int) (1 : Int) H13) (qH x0 H13 fun s17a b17b H17 => bcase (!b17b) (k ⟨none, 0, 0⟩ (0 : Int) (6 : Int) H17) (qZ x1 H17 fun n24 H24 => qQ s17a n24 x2 H24 fun n26 H26 => bcase (decide ((n26 : Int) < (0 : Int))) (k ⟨none, 0, 0⟩ (0 : Int) (4 : Int) H26) ((0 ≤ n26 ∧ n26 < ((s17a.n : Nat) : Int)) ∧ onPtr s17a.a fun a36 => ldA H26 (qlm a36 (qlr n26 * 3)) 3 fun c37 => qZ x1 H26 fun n32 H32 => AH.row? H32 (qlm a36 (qlr n26 * 3)) 3 = some c37 ∧ qI s17a n26 n32 H32 fun s33 H33 => AH.row? H33 (qlm a36 (qlr n26 * 3)) 3 = some c37 ∧ qY c37 H33 fun n38 H38 => k s33 n38 (0 : Int) H38)))
def qan.ann : Ann := { keep := fun r => match r with  | _ => [], ord := fun r => match r with | 9 => [0, 1, 2, 5, 6, 7, 8, 3, 4, 9, 10, 11, 12] | _ => [] }
theorem qan.link {x0 : Sl} {x1 : Int} {x2 : Sl} {H : AH} {k : Sl → Int → Int → AH → Prop} (h : qan.b x0 x1 x2 H k) : qan x0 x1 x2 H k := lk3 pan hT hm Tryz.func21 (by kernel_rfl) (A := qan.ann) (by kernel_rfl) (by simp) (by simp) (by simp) (by kernel_rfl) h
def qaS.l1 (x0 : Sl) (x1 : Int) (k : Int → AH → Prop) (t2 : Int × Int) (HL2 : AH) (it2 : (Int × Int) → AH → Prop) : Prop :=
 bcase (decide ((t2.2 : Int) < ((x0.n : Nat) : Int))) ((0 ≤ t2.2 ∧ t2.2 < ((x0.n : Nat) : Int)) ∧ onPtr x0.a fun a12 => ldA HL2 (qlm a12 (qlr t2.2 * 3)) 3 fun c13 => newC HL2 ⟨[(qlk .i64 (0 : Int)), (qlk .i64 (0 : Int)), (qlW false)], .rw, 0⟩ fun o6 H6 => (qly c13 = 3 ∧ ql0 c13 qq = true) ∧ stC H6 ⟨o6, 0, none⟩ c13 fun Hs2 => elB (AH.cell? Hs2 (qlm ⟨o6, 0, none⟩ 2)) fun b15 => bcase b15 (ldA Hs2 ⟨o6, 0, none⟩ 3 fun c17 => qY c17 Hs2 fun n18 H18 => bcase ((n18 : Int) == x1) (k t2.2 H18) (it2 (t2.1, (qll .i64 (t2.2 + (1 : Int)))) H18)) (it2 (t2.1, (qll .i64 (t2.2 + (1 : Int)))) Hs2)) (k (-1 : Int) HL2)
def qaS.b (x0 : Sl) (x1 : Int) (H : AH) (k : Int → AH → Prop) : Prop :=
 loopT (qaS.l1 x0 x1 k) (((0 : Int), (0 : Int)) : Int × Int) H
def qaS.ann : Ann := { keep := fun r => match r with | 2 => [(4, .int .i64), (9, .int .i64)] | _ => [], ord := fun r => match r with  | _ => [] }
theorem qaS.link {x0 : Sl} {x1 : Int} {H : AH} {k : Int → AH → Prop} (h : qaS.b x0 x1 H k) : qaS x0 x1 H k := lk1 pan hT hm Tryz.func64 (by kernel_rfl) (A := qaS.ann) (by kernel_rfl) (by simp) (by kernel_rfl) h
def qn.j1 (x0 : Sl) (k : Sl → Int → Bool → AH → Prop) (x7 : Int) (x8 : Int) (t10 : Int × Int) (HL10 : AH) : Prop :=
 (0 ≤ x7 ∧ x7 ≤ ((x0.n : Nat) : Int)) ∧ (0 ≤ x7 ∧ x7 < ((x0.n : Nat) : Int)) ∧ onPtr x0.a fun a86 => elI .i64 (AH.cell? HL10 (qlm (qlm a86 (qlr x7 * 3)) 0)) fun n88 => (qly [(qlk .i64 n88), (qlk .i64 t10.1), (qlW false)] = 3) ∧ newC HL10 ⟨[(qlk .i64 n88), (qlk .i64 t10.1), (qlW false)], .rw, 3⟩ fun o91 H91 => appendC 3 H91 ⟨none, 0, 0⟩ ⟨x0.a, (qlr x7), 0⟩ fun s83 H83 => AH.cell? H83 (qlm (qlm a86 (qlr x7 * 3)) 0) = some (qlk .i64 n88) ∧ appendC 3 H83 s83 ⟨(some ⟨o91, 0, none⟩), 1, 1⟩ fun s92 H92 => (0 ≤ x8 ∧ x8 ≤ ((x0.n : Nat) : Int)) ∧ appendC 3 H92 s92 ⟨(Option.map (fun x => qlm x (qlr x8 * 3)) x0.a), (x0.n - qlr x8), 0⟩ fun s97 H97 => k s97 x7 true H97
def qn.l2 (x0 : Sl) (k : Sl → Int → Bool → AH → Prop) (x7 : Int) (x8 : Int) (t10 : Int × Int) (HL10 : AH) (it10 : (Int × Int) → AH → Prop) : Prop :=
 bcase (decide ((t10.2 : Int) < (((qlr x8 - qlr x7) : Nat) : Int))) ((0 ≤ t10.2 ∧ t10.2 < (((qlr x8 - qlr x7) : Nat) : Int)) ∧ onPtr (Option.map (fun x => qlm x (qlr x7 * 3)) x0.a) fun a73 => ldA HL10 (qlm a73 (qlr t10.2 * 3)) 3 fun c74 => newC HL10 ⟨[(qlk .i64 (0 : Int)), (qlk .i64 (0 : Int)), (qlW false)], .rw, 0⟩ fun o11 H11 => (qly c74 = 3 ∧ ql0 c74 qq = true) ∧ stC H11 ⟨o11, 0, none⟩ c74 fun Hs2 => elI .i64 (AH.cell? Hs2 (qlm ⟨o11, 0, none⟩ 1)) fun n77 => it10 ((qll .i64 (t10.1 + n77)), (qll .i64 (t10.2 + (1 : Int)))) Hs2) (qn.j1 x0 k x7 x8 t10 HL10)
def qn.j3 (x0 : Sl) (k : Sl → Int → Bool → AH → Prop) (H16 : AH) (x7 : Int) (x8 : Int) : Prop :=
 (0 ≤ x7 ∧ x7 ≤ x8 ∧ x8 ≤ ((x0.n : Nat) : Int)) ∧ loopT (qn.l2 x0 k x7 x8) (((0 : Int), (0 : Int)) : Int × Int) H16
def qn.j4 (x0 : Sl) (x1 : Int) (k : Sl → Int → Bool → AH → Prop) (H16 : AH) (x7 : Int) (x63 : Bool) : Prop :=
 bcase x63 (qn.j3 x0 k H16 x7 (qll .i64 ((qll .i64 (x1 + (1 : Int))) + (1 : Int)))) (qn.j3 x0 k H16 x7 (qll .i64 (x1 + (1 : Int))))
def qn.j5 (x0 : Sl) (x1 : Int) (k : Sl → Int → Bool → AH → Prop) (H16 : AH) (x7 : Int) : Prop :=
 bcase (decide (((qll .i64 (x1 + (1 : Int))) : Int) < ((x0.n : Nat) : Int))) ((0 ≤ (qll .i64 (x1 + (1 : Int))) ∧ (qll .i64 (x1 + (1 : Int))) < ((x0.n : Nat) : Int)) ∧ onPtr x0.a fun a59 => elB (AH.cell? H16 (qlm (qlm a59 (qlr (qll .i64 (x1 + (1 : Int))) * 3)) 2)) fun b61 => qn.j4 x0 x1 k H16 x7 (!b61)) (qn.j4 x0 x1 k H16 x7 false)
def qn.j6 (x0 : Sl) (x1 : Int) (k : Sl → Int → Bool → AH → Prop) (H16 : AH) (x49 : Bool) : Prop :=
 bcase x49 (qn.j5 x0 x1 k H16 (qll .i64 (x1 - (1 : Int)))) (qn.j5 x0 x1 k H16 x1)
def qn.j7 (x0 : Sl) (x1 : Int) (k : Sl → Int → Bool → AH → Prop) (H16 : AH) (x35 : Bool) : Prop :=
 bcase x35 (k ⟨none, 0, 0⟩ (0 : Int) false H16) (bcase (decide ((x1 : Int) > (0 : Int))) ((0 ≤ (qll .i64 (x1 - (1 : Int))) ∧ (qll .i64 (x1 - (1 : Int))) < ((x0.n : Nat) : Int)) ∧ onPtr x0.a fun a45 => elB (AH.cell? H16 (qlm (qlm a45 (qlr (qll .i64 (x1 - (1 : Int))) * 3)) 2)) fun b47 => qn.j6 x0 x1 k H16 (!b47)) (qn.j6 x0 x1 k H16 false))
def qn.b (x0 : Sl) (x1 : Int) (H : AH) (k : Sl → Int → Bool → AH → Prop) : Prop :=
 qV x0 H fun n15 H15 => qr x0 n15 H15 fun b16 H16 => bcase (!b16) (qn.j7 x0 x1 k H16 true) (bcase (decide ((x1 : Int) < (0 : Int))) (qn.j7 x0 x1 k H16 true) (bcase (decide ((x1 : Int) ≥ ((x0.n : Nat) : Int))) (qn.j7 x0 x1 k H16 true) ((0 ≤ x1 ∧ x1 < ((x0.n : Nat) : Int)) ∧ onPtr x0.a fun a31 => elB (AH.cell? H16 (qlm (qlm a31 (qlr x1 * 3)) 2)) fun b33 => qn.j7 x0 x1 k H16 (!b33))))
def qn.ann : Ann := { keep := fun r => match r with | 10 => [(9, .int .i64), (71, .int .i64)] | _ => [], ord := fun r => match r with | 14 => [0, 1, 2, 4, 5, 6, 7, 8, 9, 10, 11, 3, 12, 13] | _ => [] }
theorem qn.link {x0 : Sl} {x1 : Int} {H : AH} {k : Sl → Int → Bool → AH → Prop} (h : qn.b x0 x1 H k) : qn x0 x1 H k := lk3 pan hT hm Tryz.func63 (by kernel_rfl) (A := qn.ann) (by kernel_rfl) (by simp) (by simp) (by simp) (by kernel_rfl) h
def qaF.b (x0 : Sl) (x1 : Int) (H : AH) (k : Sl → Int → AH → Prop) : Prop :=
 qH x0 H fun s12a b12b H12 => bcase (!b12b) (k ⟨none, 0, 0⟩ (6 : Int) H12) (qaS s12a x1 H12 fun n21 H21 => qn s12a n21 H21 fun s22a n22b b22c H22 => bcase (!b22c) (k ⟨none, 0, 0⟩ (1 : Int) H22) ((0 ≤ n22b ∧ n22b < ((s22a.n : Nat) : Int)) ∧ onPtr s22a.a fun a30 => elI .i64 (AH.cell? H22 (qlm (qlm a30 (qlr n22b * 3)) 0)) fun n32 => (0 ≤ n22b ∧ n22b < ((s22a.n : Nat) : Int)) ∧ onPtr s22a.a fun a35 => elI .i64 (AH.cell? H22 (qlm (qlm a35 (qlr n22b * 3)) 1)) fun n37 => qaG n37 false H22 fun n38 H38 => AH.cell? H38 (qlm (qlm a30 (qlr n22b * 3)) 0) = some (qlk .i64 n32) ∧ (qly [(qlk .i64 n32), (qlk .u64 n38)] = 2) ∧ newC H38 ⟨[(qlk .i64 n32), (qlk .u64 n38)], .rw, 2⟩ fun o40 H40 => k ⟨(some ⟨o40, 0, none⟩), 1, 1⟩ (0 : Int) H40))
def qaF.ann : Ann := { keep := fun r => match r with  | _ => [], ord := fun r => match r with | 7 => [0, 1, 2, 3, 4, 5, 6, 7, 8, 9, 10, 11, 12, 13, 14] | _ => [] }
theorem qaF.link {x0 : Sl} {x1 : Int} {H : AH} {k : Sl → Int → AH → Prop} (h : qaF.b x0 x1 H k) : qaF x0 x1 H k := lk2 pan hT hm Tryz.func22 (by kernel_rfl) (A := qaF.ann) (by kernel_rfl) (by simp) (by simp) (by kernel_rfl) h
def qP.l1 (x0 : Sl) (x1 : Int) (x2 : Int) (k : Bool → AH → Prop) (t4 : Bool × Int) (HL4 : AH) (it4 : (Bool × Int) → AH → Prop) : Prop :=
 bcase (decide ((t4.2 : Int) < ((x0.n : Nat) : Int))) ((0 ≤ t4.2 ∧ t4.2 < ((x0.n : Nat) : Int)) ∧ onPtr x0.a fun a20 => ldA HL4 (qlm a20 (qlr t4.2 * 3)) 3 fun c21 => newC HL4 ⟨[(qlk .i64 (0 : Int)), (qlk .i64 (0 : Int)), (qlW false)], .rw, 0⟩ fun o8 H8 => (qly c21 = 3 ∧ ql0 c21 qq = true) ∧ stC H8 ⟨o8, 0, none⟩ c21 fun Hs2 => elI .i64 (AH.cell? Hs2 (qlm ⟨o8, 0, none⟩ 0)) fun n23 => elI .i64 (AH.cell? Hs2 (qlm ⟨o8, 0, none⟩ 1)) fun n25 => elB (AH.cell? Hs2 (qlm ⟨o8, 0, none⟩ 2)) fun b29 => bcase b29 (ldA Hs2 ⟨o8, 0, none⟩ 3 fun c32 => qY c32 Hs2 fun n33 H33 => bcase (decide ((x1 : Int) ≥ n33)) (bcase (decide ((x1 : Int) ≤ (qll .i64 ((qll .i64 (n23 + n25)) * (8 : Int))))) (bcase (decide ((x2 : Int) ≤ (qll .i64 ((qll .i64 ((qll .i64 (n23 + n25)) * (8 : Int))) - x1)))) (k true H33) (it4 (t4.1, (qll .i64 (t4.2 + (1 : Int)))) H33)) (it4 (t4.1, (qll .i64 (t4.2 + (1 : Int)))) H33)) (it4 (t4.1, (qll .i64 (t4.2 + (1 : Int)))) H33)) (it4 (t4.1, (qll .i64 (t4.2 + (1 : Int)))) Hs2)) (k false HL4)
def qP.j2 (x0 : Sl) (x1 : Int) (x2 : Int) (H : AH) (k : Bool → AH → Prop) (x15 : Bool) : Prop :=
 bcase x15 (k false H) (loopT (qP.l1 x0 x1 x2 k) ((false, (0 : Int)) : Bool × Int) H)
def qP.b (x0 : Sl) (x1 : Int) (x2 : Int) (H : AH) (k : Bool → AH → Prop) : Prop :=
 bcase (decide ((x2 : Int) < (0 : Int))) (qP.j2 x0 x1 x2 H k true) (qP.j2 x0 x1 x2 H k (decide ((x2 : Int) > (448 : Int))))
def qP.ann : Ann := { keep := fun r => match r with | 4 => [(6, .bool), (18, .int .i64)] | _ => [], ord := fun r => match r with  | _ => [] }
theorem qP.link {x0 : Sl} {x1 : Int} {x2 : Int} {H : AH} {k : Bool → AH → Prop} (h : qP.b x0 x1 x2 H k) : qP x0 x1 x2 H k := lk1 pan hT hm Tryz.func66 (by kernel_rfl) (A := qP.ann) (by kernel_rfl) (by simp) (by kernel_rfl) h
def qa2.b (x0 : Int) (x1 : Int) (x2 : Int) (H : AH) (k : Bool → AH → Prop) : Prop :=
 bcase (decide ((x1 : Int) ≥ (0 : Int))) (bcase (decide ((x2 : Int) ≥ (0 : Int))) (bcase (decide ((x2 : Int) ≤ (448 : Int))) (bcase (decide ((x1 : Int) ≤ (qll .i64 ((8 : Int) * x0)))) (k (decide ((x2 : Int) ≤ (qll .i64 ((qll .i64 ((8 : Int) * x0)) - x1)))) H) (k false H)) (k false H)) (k false H)) (k false H)
theorem qa2.link {x0 : Int} {x1 : Int} {x2 : Int} {H : AH} {k : Bool → AH → Prop} (h : qa2.b x0 x1 x2 H k) : qa2 x0 x1 x2 H k := lk1 pan hT hm Tryz.func117 (by kernel_rfl) (A := ann0) (by kernel_rfl) (by simp) (by kernel_rfl) h
def qz.j1 (x1 : Int) (t5 : Sl × Int) (it5 : (Sl × Int) → AH → Prop) (n28 : Int) (x8 : Sl) (Hj : AH) : Prop :=
 (0 ≤ (qll .i64 (((x8.n : Nat) : Int) - (1 : Int))) ∧ (qll .i64 (((x8.n : Nat) : Int) - (1 : Int))) < ((x8.n : Nat) : Int)) ∧ onPtr x8.a fun a66 => elI .u64 (AH.cell? Hj (qlm (qlm a66 (qlr (qll .i64 (((x8.n : Nat) : Int) - (1 : Int))) * 2)) 1)) fun n71 => (0 : Int) ≤ (qll .u64 (qll .i64 ((qmg (qll .i64 (x1 + t5.2)) (8 : Int)) * (8 : Int)))) ∧ (0 : Int) ≤ (qll .u64 (qll .i64 ((qmg (qll .i64 (x1 + t5.2)) (8 : Int)) * (8 : Int)))) ∧ stC Hj (qlm (qlm a66 (qlr (qll .i64 (((x8.n : Nat) : Int) - (1 : Int))) * 2)) 1) [(qlk .u64 (orI .u64 (andNotI .u64 n71 (shlI .u64 (255 : Int) (qll .u64 (qll .i64 ((qmg (qll .i64 (x1 + t5.2)) (8 : Int)) * (8 : Int)))))) (shlI .u64 (qll .u64 n28) (qll .u64 (qll .i64 ((qmg (qll .i64 (x1 + t5.2)) (8 : Int)) * (8 : Int)))))))] fun Hs2 => it5 (x8, (qll .i64 (t5.2 + (1 : Int)))) Hs2
def qz.j2 (x0 : Sl) (x1 : Int) (t5 : Sl × Int) (it5 : (Sl × Int) → AH → Prop) (HL5 : AH) (n28 : Int) (x52 : Bool) : Prop :=
 bcase x52 ((0 ≤ (qll .i64 (qmo (qll .i64 (x1 + t5.2)) (8 : Int))) ∧ (qll .i64 (qmo (qll .i64 (x1 + t5.2)) (8 : Int))) < ((x0.n : Nat) : Int)) ∧ onPtr x0.a fun a57 => elI .u64 (AH.cell? HL5 (qlm a57 (qlr (qll .i64 (qmo (qll .i64 (x1 + t5.2)) (8 : Int))) * 1))) fun n58 => (qly [(qlk .i64 (qll .i64 (qmo (qll .i64 (x1 + t5.2)) (8 : Int)))), (qlk .u64 n58)] = 2) ∧ newC HL5 ⟨[(qlk .i64 (qll .i64 (qmo (qll .i64 (x1 + t5.2)) (8 : Int)))), (qlk .u64 n58)], .rw, 2⟩ fun o60 H60 => appendC 2 H60 t5.1 ⟨(some ⟨o60, 0, none⟩), 1, 1⟩ fun s61 H61 => qz.j1 x1 t5 it5 n28 s61 H61) (qz.j1 x1 t5 it5 n28 t5.1 HL5)
def qz.l3 (x0 : Sl) (x1 : Int) (x2 : Sl) (k : Sl → Bool → AH → Prop) (t5 : Sl × Int) (HL5 : AH) (it5 : (Sl × Int) → AH → Prop) : Prop :=
 bcase (decide ((t5.2 : Int) < ((x2.n : Nat) : Int))) ((0 ≤ t5.2 ∧ t5.2 < ((x2.n : Nat) : Int)) ∧ onPtr x2.a fun a27 => elI .u8 (AH.cell? HL5 (qlm a27 (qlr t5.2 * 1))) fun n28 => ((8 : Int) : Int) ≠ 0 ∧ ((8 : Int) : Int) ≠ 0 ∧ bcase ((((t5.1.n : Nat) : Int) : Int) == (0 : Int)) (qz.j2 x0 x1 t5 it5 HL5 n28 true) ((0 ≤ (qll .i64 (((t5.1.n : Nat) : Int) - (1 : Int))) ∧ (qll .i64 (((t5.1.n : Nat) : Int) - (1 : Int))) < ((t5.1.n : Nat) : Int)) ∧ onPtr t5.1.a fun a47 => elI .i64 (AH.cell? HL5 (qlm (qlm a47 (qlr (qll .i64 (((t5.1.n : Nat) : Int) - (1 : Int))) * 2)) 0)) fun n49 => qz.j2 x0 x1 t5 it5 HL5 n28 ((n49 : Int) != (qll .i64 (qmo (qll .i64 (x1 + t5.2)) (8 : Int)))))) (k t5.1 true HL5)
def qz.b (x0 : Sl) (x1 : Int) (x2 : Sl) (H : AH) (k : Sl → Bool → AH → Prop) : Prop :=
 qa2 ((x0.n : Nat) : Int) x1 ((x2.n : Nat) : Int) H fun b20 H20 => bcase (!b20) (k ⟨none, 0, 0⟩ false H20) (loopT (qz.l3 x0 x1 x2 k) ((⟨none, 0, 0⟩, (0 : Int)) : Sl × Int) H20)
def qz.ann : Ann := { keep := fun r => match r with | 5 => [(8, .sl), (24, .int .i64)] | _ => [], ord := fun r => match r with  | _ => [] }
theorem qz.link {x0 : Sl} {x1 : Int} {x2 : Sl} {H : AH} {k : Sl → Bool → AH → Prop} (h : qz.b x0 x1 x2 H k) : qz x0 x1 x2 H k := lk2 pan hT hm Tryz.func67 (by kernel_rfl) (A := qz.ann) (by kernel_rfl) (by simp) (by simp) (by kernel_rfl) h
def qaV.b (x0 : Sl) (x1 : Int) (x2 : Sl) (H : AH) (k : Sl → Int → AH → Prop) : Prop :=
 qH x0 H fun s14a b14b H14 => bcase (!b14b) (k ⟨none, 0, 0⟩ (6 : Int) H14) (qP s14a x1 ((x2.n : Nat) : Int) H14 fun b23 H23 => bcase (!b23) (k ⟨none, 0, 0⟩ (1 : Int) H23) (qz x0 x1 x2 H23 fun s29a b29b H29 => k s29a (0 : Int) H29))
theorem qaV.link {x0 : Sl} {x1 : Int} {x2 : Sl} {H : AH} {k : Sl → Int → AH → Prop} (h : qaV.b x0 x1 x2 H k) : qaV x0 x1 x2 H k := lk2 pan hT hm Tryz.func23 (by kernel_rfl) (A := ann0) (by kernel_rfl) (by simp) (by simp) (by kernel_rfl) h
def qeY.ann : Ann := { keep := fun r => match r with | 3 => [(3, .sl), (10, .int .i64)] | 7 => [(7, .int .i64)] | _ => [], ord := fun r => match r with | 10 => [0, 1, 2, 4, 5, 7, 8, 9, 3, 6, 10, 11] | _ => [] }
def qbs.b (x0 : Int) (H : AH) (k : Sl → AH → Prop) : Prop :=
 qau x0 H fun b5 H5 => bcase (!b5) (k ⟨none, 0, 0⟩ H5) ((0 ≤ x0 ∧ x0 ≤ x0 ∧ x0 ≤ (lim : Int)) ∧ newC H5 ⟨zerosOf (qlr x0) [(qlk .u64 (0 : Int))], .rw, 1⟩ fun o8 H8 => qaG x0 false H8 fun n11 H11 => (0 ≤ (0 : Int) ∧ (0 : Int) < (((qlr x0) : Nat) : Int)) ∧ stC H11 (qlm ⟨o8, 0, none⟩ (qlr (0 : Int) * 1)) [(qlk .u64 n11)] fun Hs2 => k ⟨(some ⟨o8, 0, none⟩), (qlr x0), 1⟩ Hs2)
theorem qbs.link {x0 : Int} {H : AH} {k : Sl → AH → Prop} (h : qbs.b x0 H k) : qbs x0 H k := lk1 pan hT hm Tryz.func69 (by kernel_rfl) (A := ann0) (by kernel_rfl) (by simp) (by kernel_rfl) h
def qa8.b (x0 : Int) (H : AH) (k : Option Addr → AH → Prop) : Prop :=
 qau x0 H fun b4 H4 => bcase (!b4) (k none H4) (qbs x0 H4 fun s7 H7 => newC H7 ⟨[(Sl.val s7), (qlk .i64 (0 : Int))], .rw, 0⟩ fun o9 H9 => k (some ⟨o9, 0, none⟩) H9)
theorem qa8.link {x0 : Int} {H : AH} {k : Option Addr → AH → Prop} (h : qa8.b x0 H k) : qa8 x0 H k := lk1 pan hT hm Tryz.func25 (by kernel_rfl) (A := ann0) (by kernel_rfl) (by simp) (by kernel_rfl) h
def qae.b (x0 : Option Addr) (H : AH) (k : Option Addr → AH → Prop) : Prop :=
 onPtr x0 fun a4 => elL (AH.cell? H (qlm a4 0)) fun s6 => onPtr x0 fun a9 => elI .i64 (AH.cell? H (qlm a9 1)) fun n11 => appendC 1 H ⟨none, 0, 0⟩ s6 fun s7 H7 => AH.cell? H7 (qlm a9 1) = some (qlk .i64 n11) ∧ newC H7 ⟨[(Sl.val s7), (qlk .i64 n11)], .rw, 0⟩ fun o13 H13 => k (some ⟨o13, 0, none⟩) H13
def qae.ann : Ann := { keep := fun r => match r with  | _ => [], ord := fun r => match r with | 1 => [0, 1, 2, 3, 5, 6, 7, 8, 4, 9, 10, 11] | _ => [] }
theorem qae.link {x0 : Option Addr} {H : AH} {k : Option Addr → AH → Prop} (h : qae.b x0 H k) : qae x0 H k := lk1 pan hT hm Tryz.func33 (by kernel_rfl) (A := qae.ann) (by kernel_rfl) (by simp) (by kernel_rfl) h
def qac.b (x0 : Option Addr) (H : AH) (k : Sl → AH → Prop) : Prop :=
 onPtr x0 fun a7 => elL (AH.cell? H (qlm a7 0)) fun s9 => qH s9 H fun s10a b10b H10 => k s10a H10
theorem qac.link {x0 : Option Addr} {H : AH} {k : Sl → AH → Prop} (h : qac.b x0 H k) : qac x0 H k := lk1 pan hT hm Tryz.func81 (by kernel_rfl) (A := ann0) (by kernel_rfl) (by simp) (by kernel_rfl) h
def qM.j1 (s9 : Sl) (t3 : Int) (it3 : (Int) → AH → Prop) (o7 : Nat) (Hs2 : AH) (x25 : Bool) : Prop :=
 bcase x25 (elI .i64 (AH.cell? Hs2 (qlm ⟨o7, 0, none⟩ 0)) fun n28 => elI .u64 (AH.cell? Hs2 (qlm ⟨o7, 0, none⟩ 1)) fun n30 => (0 ≤ n28 ∧ n28 < ((s9.n : Nat) : Int)) ∧ onPtr s9.a fun a31 => stC Hs2 (qlm a31 (qlr n28 * 1)) [(qlk .u64 n30)] fun Hs4 => it3 (qll .i64 (t3 + (1 : Int))) Hs4) (it3 (qll .i64 (t3 + (1 : Int))) Hs2)
def qM.l2 (x1 : Sl) (k : Sl → AH → Prop) (s9 : Sl) (t3 : Int) (HL3 : AH) (it3 : (Int) → AH → Prop) : Prop :=
 bcase (decide ((t3 : Int) < ((x1.n : Nat) : Int))) ((0 ≤ t3 ∧ t3 < ((x1.n : Nat) : Int)) ∧ onPtr x1.a fun a14 => ldA HL3 (qlm a14 (qlr t3 * 2)) 2 fun c15 => newC HL3 ⟨[(qlk .i64 (0 : Int)), (qlk .u64 (0 : Int))], .rw, 0⟩ fun o7 H7 => (qly c15 = 2 ∧ ql0 c15 qq = true) ∧ stC H7 ⟨o7, 0, none⟩ c15 fun Hs2 => elI .i64 (AH.cell? Hs2 (qlm ⟨o7, 0, none⟩ 0)) fun n17 => bcase (decide ((n17 : Int) ≥ (0 : Int))) (elI .i64 (AH.cell? Hs2 (qlm ⟨o7, 0, none⟩ 0)) fun n21 => qM.j1 s9 t3 it3 o7 Hs2 (decide ((n21 : Int) < ((s9.n : Nat) : Int)))) (qM.j1 s9 t3 it3 o7 Hs2 false)) (k s9 HL3)
def qM.b (x0 : Sl) (x1 : Sl) (H : AH) (k : Sl → AH → Prop) : Prop :=
 appendC 1 H ⟨none, 0, 0⟩ x0 fun s9 H9 => loopT (qM.l2 x1 k s9) (((0 : Int)) : Int) H9
def qM.ann : Ann := { keep := fun r => match r with | 3 => [(12, .int .i64)] | _ => [], ord := fun r => match r with  | _ => [] }
theorem qM.link {x0 : Sl} {x1 : Sl} {H : AH} {k : Sl → AH → Prop} (h : qM.b x0 x1 H k) : qM x0 x1 H k := lk1 pan hT hm Tryz.func34 (by kernel_rfl) (A := qM.ann) (by kernel_rfl) (by simp) (by kernel_rfl) h
def qaa.l1 (x0 : Option Addr) (x1 : Int) (x2 : Int) (k : Bool → AH → Prop) (s11 : Sl) (s15 : Sl) (t3 : Bool × Int) (HL3 : AH) (it3 : (Bool × Int) → AH → Prop) : Prop :=
 bcase (decide ((t3.2 : Int) < ((s15.n : Nat) : Int))) ((0 ≤ t3.2 ∧ t3.2 < ((s15.n : Nat) : Int)) ∧ onPtr s15.a fun a19 => elI .i64 (AH.cell? HL3 (qlm a19 (qlr t3.2 * 1))) fun n20 => (0 ≤ n20 ∧ n20 < ((s11.n : Nat) : Int)) ∧ onPtr s11.a fun a23 => ldA HL3 (qlm a23 (qlr n20 * 3)) 3 fun c24 => qY c24 HL3 fun n25 H25 => bcase ((n25 : Int) == x2) (onPtr x0 fun a30 => elL (AH.cell? H25 (qlm a30 0)) fun s32 => qZ x1 H25 fun n36 H36 => AH.cell? H36 (qlm a30 0) = some (Sl.val s32) ∧ qI s11 n20 n36 H36 fun s37 H37 => AH.cell? H37 (qlm a30 0) = some (Sl.val s32) ∧ qM s32 s37 H37 fun s38 H38 => onPtr x0 fun a39 => stC H38 (qlm a39 0) [(Sl.val s38)] fun Hs2 => k true Hs2) (it3 (t3.1, (qll .i64 (t3.2 + (1 : Int)))) H25)) (k false HL3)
def qaa.b (x0 : Option Addr) (x1 : Int) (x2 : Int) (H : AH) (k : Bool → AH → Prop) : Prop :=
 qac x0 H fun s11 H11 => qZ x1 H11 fun n14 H14 => qx s11 n14 H14 fun s15 H15 => loopT (qaa.l1 x0 x1 x2 k s11 s15) ((false, (0 : Int)) : Bool × Int) H15
def qaa.ann : Ann := { keep := fun r => match r with | 3 => [(6, .bool), (17, .int .i64)] | _ => [], ord := fun r => match r with | 6 => [0, 1, 2, 3, 4, 5, 6, 7, 8, 9, 10, 11, 12, 13] | _ => [] }
theorem qaa.link {x0 : Option Addr} {x1 : Int} {x2 : Int} {H : AH} {k : Bool → AH → Prop} (h : qaa.b x0 x1 x2 H k) : qaa x0 x1 x2 H k := lk1 pan hT hm Tryz.func70 (by kernel_rfl) (A := qaa.ann) (by kernel_rfl) (by simp) (by kernel_rfl) h
def qaB.b (x0 : Option Addr) (x1 : Int) (H : AH) (k : Int → AH → Prop) : Prop :=
 onPtr x0 fun a9 => elL (AH.cell? H (qlm a9 0)) fun s11 => qaF s11 x1 H fun s13a n13b H13 => bcase ((n13b : Int) != (0 : Int)) (k n13b H13) (onPtr x0 fun a22 => elI .i64 (AH.cell? H13 (qlm a22 1)) fun n24 => bcase ((n24 : Int) == x1) (k (5 : Int) H13) (onPtr x0 fun a29 => elL (AH.cell? H13 (qlm a29 0)) fun s31 => qM s31 s13a H13 fun s33 H33 => onPtr x0 fun a34 => stC H33 (qlm a34 0) [(Sl.val s33)] fun Hs2 => k (0 : Int) Hs2))
theorem qaB.link {x0 : Option Addr} {x1 : Int} {H : AH} {k : Int → AH → Prop} (h : qaB.b x0 x1 H k) : qaB x0 x1 H k := lk1 pan hT hm Tryz.func35 (by kernel_rfl) (A := ann0) (by kernel_rfl) (by simp) (by kernel_rfl) h
def qav.b (x0 : Option Addr) (x1 : Int) (x2 : Sl) (H : AH) (k : Int → AH → Prop) : Prop :=
 onPtr x0 fun a11 => elL (AH.cell? H (qlm a11 0)) fun s13 => qaV s13 x1 x2 H fun s16a n16b H16 => bcase ((n16b : Int) == (0 : Int)) (onPtr x0 fun a23 => elL (AH.cell? H16 (qlm a23 0)) fun s25 => qM s25 s16a H16 fun s27 H27 => onPtr x0 fun a28 => stC H27 (qlm a28 0) [(Sl.val s27)] fun Hs2 => k n16b Hs2) (k n16b H16)
theorem qav.link {x0 : Option Addr} {x1 : Int} {x2 : Sl} {H : AH} {k : Int → AH → Prop} (h : qav.b x0 x1 x2 H k) : qav x0 x1 x2 H k := lk1 pan hT hm Tryz.func36 (by kernel_rfl) (A := ann0) (by kernel_rfl) (by simp) (by kernel_rfl) h
def qD.j1 (x0 : Option Addr) (x1 : Int) (k : Int → AH → Prop) (x13 : Bool) (Hj : AH) : Prop :=
 bcase x13 (k (1 : Int) Hj) (onPtr x0 fun a16 => stC Hj (qlm a16 1) [(qlk .i64 x1)] fun Hs2 => k (0 : Int) Hs2)
def qD.b (x0 : Option Addr) (x1 : Int) (H : AH) (k : Int → AH → Prop) : Prop :=
 bcase ((x1 : Int) != (0 : Int)) (qac x0 H fun s9 H9 => qaS s9 x1 H9 fun n11 H11 => qD.j1 x0 x1 k (decide ((n11 : Int) < (0 : Int))) H11) (qD.j1 x0 x1 k false H)
theorem qD.link {x0 : Option Addr} {x1 : Int} {H : AH} {k : Int → AH → Prop} (h : qD.b x0 x1 H k) : qD x0 x1 H k := lk1 pan hT hm Tryz.func37 (by kernel_rfl) (A := ann0) (by kernel_rfl) (by simp) (by kernel_rfl) h
def qaj.l1 (x0 : Sl) (x1 : Int) (x2 : Int) (k : Sl → Bool → AH → Prop) (t5 : Sl × Int) (HL5 : AH) (it5 : (Sl × Int) → AH → Prop) : Prop :=
 bcase (decide ((t5.2 : Int) < (qll .i64 (x1 + x2)))) (((8 : Int) : Int) ≠ 0 ∧ (0 ≤ (qll .i64 (qmo t5.2 (8 : Int))) ∧ (qll .i64 (qmo t5.2 (8 : Int))) < ((x0.n : Nat) : Int)) ∧ onPtr x0.a fun a28 => elI .u64 (AH.cell? HL5 (qlm a28 (qlr (qll .i64 (qmo t5.2 (8 : Int))) * 1))) fun n29 => ((8 : Int) : Int) ≠ 0 ∧ (0 : Int) ≤ (qll .u64 (qll .i64 ((qmg t5.2 (8 : Int)) * (8 : Int)))) ∧ newC HL5 ⟨[(qlk .u8 (qll .u8 (shrI .u64 n29 (qll .u64 (qll .i64 ((qmg t5.2 (8 : Int)) * (8 : Int)))))))], .rw, 1⟩ fun o36 H36 => appendC 1 H36 t5.1 ⟨(some ⟨o36, 0, none⟩), 1, 1⟩ fun s37 H37 => it5 (s37, (qll .i64 (t5.2 + (1 : Int)))) H37) (k t5.1 true HL5)
def qaj.b (x0 : Sl) (x1 : Int) (x2 : Int) (H : AH) (k : Sl → Bool → AH → Prop) : Prop :=
 qa2 ((x0.n : Nat) : Int) x1 x2 H fun b14 H14 => bcase (!b14) (k ⟨none, 0, 0⟩ false H14) (loopT (qaj.l1 x0 x1 x2 k) ((⟨none, 0, 0⟩, x1) : Sl × Int) H14)
def qaj.ann : Ann := { keep := fun r => match r with | 5 => [(8, .sl), (9, .int .i64)] | _ => [], ord := fun r => match r with  | _ => [] }
theorem qaj.link {x0 : Sl} {x1 : Int} {x2 : Int} {H : AH} {k : Sl → Bool → AH → Prop} (h : qaj.b x0 x1 x2 H k) : qaj x0 x1 x2 H k := lk2 pan hT hm Tryz.func146 (by kernel_rfl) (A := qaj.ann) (by kernel_rfl) (by simp) (by simp) (by kernel_rfl) h
def qbJ.b (x0 : Sl) (x1 : Int) (x2 : Int) (H : AH) (k : Sl → Int → AH → Prop) : Prop :=
 qH x0 H fun s14a b14b H14 => bcase (!b14b) (k ⟨none, 0, 0⟩ (6 : Int) H14) (qP s14a x1 x2 H14 fun b22 H22 => bcase (!b22) (k ⟨none, 0, 0⟩ (1 : Int) H22) (qaj x0 x1 x2 H22 fun s28a b28b H28 => k s28a (0 : Int) H28))
theorem qbJ.link {x0 : Sl} {x1 : Int} {x2 : Int} {H : AH} {k : Sl → Int → AH → Prop} (h : qbJ.b x0 x1 x2 H k) : qbJ x0 x1 x2 H k := lk2 pan hT hm Tryz.func118 (by kernel_rfl) (A := ann0) (by kernel_rfl) (by simp) (by simp) (by kernel_rfl) h
def qaA.b (x0 : Option Addr) (x1 : Int) (x2 : Int) (H : AH) (k : Sl → Int → AH → Prop) : Prop :=
 onPtr x0 fun a9 => elL (AH.cell? H (qlm a9 0)) fun s11 => qbJ s11 x1 x2 H fun s14a n14b H14 => k s14a n14b H14
theorem qaA.link {x0 : Option Addr} {x1 : Int} {x2 : Int} {H : AH} {k : Sl → Int → AH → Prop} (h : qaA.b x0 x1 x2 H k) : qaA x0 x1 x2 H k := lk2 pan hT hm Tryz.func71 (by kernel_rfl) (A := ann0) (by kernel_rfl) (by simp) (by simp) (by kernel_rfl) h
def ql.j1 (x1 : Option Addr) (k : Int → AH → Prop) (p39 : Option Addr) (Hj : AH) (x14 : Int) : Prop :=
 bcase ((x14 : Int) == (0 : Int)) (onPtr p39 fun a224 => elL (AH.cell? Hj (qlm a224 0)) fun s226 => onPtr p39 fun a228 => elI .i64 (AH.cell? Hj (qlm a228 1)) fun n230 => onPtr x1 fun a231 => stC Hj (qlm a231 0) [(Sl.val s226)] fun Hs4 => onPtr x1 fun a233 => stC Hs4 (qlm a233 1) [(qlk .i64 n230)] fun Hs6 => k (0 : Int) Hs6) (k (0 : Int) Hj)
def ql.j2 (x1 : Option Addr) (k : Int → AH → Prop) (b29 : Bool) (o11 : Nat) (p39 : Option Addr) (x14 : Int) (x20 : Bool) (x179 : Bool) (Hj : AH) : Prop :=
 bcase x179 (k (0 : Int) Hj) (elI .i64 (AH.cell? Hj (qlm ⟨o11, 0, none⟩ 0)) fun n205 => bcase ((n205 : Int) != x14) (k (6 : Int) Hj) (bcase b29 (bcase ((x14 : Int) == (0 : Int)) (bcase (!x20) (k (6 : Int) Hj) (ql.j1 x1 k p39 Hj x14)) (ql.j1 x1 k p39 Hj x14)) (ql.j1 x1 k p39 Hj x14)))
def ql.j3 (x0 : Option Addr) (x1 : Option Addr) (k : Int → AH → Prop) (o5 : Nat) (b29 : Bool) (o11 : Nat) (b37 : Bool) (p39 : Option Addr) (Hj : AH) (x14 : Int) (x20 : Bool) : Prop :=
 bcase (!b37) (k (5 : Int) Hj) (elI .i64 (AH.cell? Hj (qlm ⟨o11, 0, none⟩ 0)) fun n181 => bcase ((n181 : Int) == (3 : Int)) (bcase ((x14 : Int) == (0 : Int)) (bcase (!x20) (bcase b29 (ql.j2 x1 k b29 o11 p39 x14 x20 true Hj) (qbw x0 Hj fun b195 H195 => bcase b195 (elI .i64 (AH.cell? H195 (qlm ⟨o5, 0, none⟩ 0)) fun n198 => ql.j2 x1 k b29 o11 p39 x14 x20 ((n198 : Int) != (5 : Int)) H195) (ql.j2 x1 k b29 o11 p39 x14 x20 false H195))) (ql.j2 x1 k b29 o11 p39 x14 x20 false Hj)) (ql.j2 x1 k b29 o11 p39 x14 x20 false Hj)) (ql.j2 x1 k b29 o11 p39 x14 x20 false Hj))
def ql.j4 (x0 : Option Addr) (x1 : Option Addr) (k : Int → AH → Prop) (o5 : Nat) (b29 : Bool) (o11 : Nat) (b37 : Bool) (p39 : Option Addr) (x14 : Int) (Hj : AH) : Prop :=
 elI .i64 (AH.cell? Hj (qlm ⟨o5, 0, none⟩ 0)) fun n168 => bcase ((n168 : Int) == (4 : Int)) (elL (AH.cell? Hj (qlm ⟨o5, 0, none⟩ 4)) fun s172 => ql.j3 x0 x1 k o5 b29 o11 b37 p39 Hj x14 ((((s172.n : Nat) : Int) : Int) == (0 : Int))) (ql.j3 x0 x1 k o5 b29 o11 b37 p39 Hj x14 false)
def ql.j5 (x1 : Option Addr) (k : Int → AH → Prop) (p39 : Option Addr) (x80 : Bool) (Hj : AH) : Prop :=
 bcase x80 (k (1 : Int) Hj) (onPtr p39 fun a83 => elL (AH.cell? Hj (qlm a83 0)) fun s85 => onPtr x1 fun a86 => stC Hj (qlm a86 0) [(Sl.val s85)] fun Hs8 => k (0 : Int) Hs8)
def ql.j6 (k : Int → AH → Prop) (b29 : Bool) (o11 : Nat) (b37 : Bool) (n49c : Int) (x104 : Bool) (Hj : AH) : Prop :=
 bcase x104 (k (0 : Int) Hj) (elI .i64 (AH.cell? Hj (qlm ⟨o11, 0, none⟩ 0)) fun n106 => bcase ((n106 : Int) != n49c) (k (2 : Int) Hj) (bcase (!b37) (k (2 : Int) Hj) (bcase b29 (bcase ((n49c : Int) != (1 : Int)) (k (2 : Int) Hj) (k (0 : Int) Hj)) (k (0 : Int) Hj))))
def ql.b (x0 : Option Addr) (x1 : Option Addr) (x2 : List Value) (H : AH) (k : Int → AH → Prop) : Prop :=
 newC H ⟨x2, .rw, 0⟩ fun o5 H5 => qal x0 H5 fun s23a n23b H23 => qbd x0 H23 fun s27 H27 => qbw x0 H27 fun b29 H29 => ldA H29 ⟨o5, 0, none⟩ 5 fun c31 => qu x0 c31 H29 fun c32 H32 => newC H32 ⟨[(qlk .i64 (0 : Int)), (qlk .i64 (0 : Int)), (qlR none 0 0)], .rw, 0⟩ fun o11 H11 => (qly c32 = 3 ∧ ql0 c32 qq = true) ∧ stC H11 ⟨o11, 0, none⟩ c32 fun Hs2 => ldA Hs2 ⟨o11, 0, none⟩ 3 fun c33 => elI .i64 (AH.cell? Hs2 (qlm ⟨o11, 0, none⟩ 0)) fun n35 => qap c33 [(qlk .i64 n35), (qlk .i64 (0 : Int)), (qlR none 0 0)] Hs2 fun b37 H37 => qae x1 H37 fun p39 H39 => elI .i64 (AH.cell? H39 (qlm ⟨o5, 0, none⟩ 0)) fun n41 => bcase ((n41 : Int) == (1 : Int)) (elI .i64 (AH.cell? H39 (qlm ⟨o5, 0, none⟩ 2)) fun n47 => qan s23a n47 s27 H39 fun s49a n49b n49c H49 => elI .i64 (AH.cell? H49 (qlm ⟨o11, 0, none⟩ 0)) fun n54 => bcase ((n54 : Int) == (0 : Int)) (bcase ((n49c : Int) != (0 : Int)) (ql.j5 x1 k p39 true H49) (elI .i64 (AH.cell? H49 (qlm ⟨o11, 0, none⟩ 1)) fun n60 => bcase ((n60 : Int) != n49b) (ql.j5 x1 k p39 true H49) (elL (AH.cell? H49 (qlm ⟨o11, 0, none⟩ 2)) fun s66 => bcase ((((s66.n : Nat) : Int) : Int) != (0 : Int)) (ql.j5 x1 k p39 true H49) (elI .i64 (AH.cell? H49 (qlm ⟨o5, 0, none⟩ 2)) fun n73 => qaa p39 n73 n49b H49 fun b75 H75 => bcase (!b75) (ql.j5 x1 k p39 true H75) (ql.j5 x1 k p39 b29 H75))))) (elI .i64 (AH.cell? H49 (qlm ⟨o11, 0, none⟩ 0)) fun n89 => bcase ((n89 : Int) == (3 : Int)) (bcase ((n49c : Int) != (1 : Int)) (bcase b29 (ql.j6 k b29 o11 b37 n49c b37 H49) (qbw x0 H49 fun b99 H99 => bcase b99 (ql.j6 k b29 o11 b37 n49c b37 H99) (ql.j6 k b29 o11 b37 n49c false H99))) (ql.j6 k b29 o11 b37 n49c false H49)) (ql.j6 k b29 o11 b37 n49c false H49))) (bcase ((n41 : Int) == (2 : Int)) (elI .i64 (AH.cell? H39 (qlm ⟨o5, 0, none⟩ 1)) fun n124 => qaB p39 n124 H39 fun n125 H125 => ql.j4 x0 x1 k o5 b29 o11 b37 p39 n125 H125) (bcase ((n41 : Int) == (4 : Int)) (elI .i64 (AH.cell? H39 (qlm ⟨o5, 0, none⟩ 1)) fun n130 => elL (AH.cell? H39 (qlm ⟨o5, 0, none⟩ 4)) fun s132 => qav p39 n130 s132 H39 fun n133 H133 => ql.j4 x0 x1 k o5 b29 o11 b37 p39 n133 H133) (bcase ((n41 : Int) == (5 : Int)) (elI .i64 (AH.cell? H39 (qlm ⟨o5, 0, none⟩ 1)) fun n138 => qD p39 n138 H39 fun n139 H139 => ql.j4 x0 x1 k o5 b29 o11 b37 p39 n139 H139) (bcase ((n41 : Int) == (3 : Int)) (elI .i64 (AH.cell? H39 (qlm ⟨o5, 0, none⟩ 1)) fun n145 => elI .i64 (AH.cell? H39 (qlm ⟨o5, 0, none⟩ 2)) fun n147 => qaA p39 n145 n147 H39 fun s148a n148b H148 => ldA H148 ⟨o11, 0, none⟩ 3 fun c151 => qap c151 [(qlk .i64 n148b), (qlk .i64 (0 : Int)), (Sl.val s148a)] H148 fun b155 H155 => bcase (!b155) (k (3 : Int) H155) (k (0 : Int) H155)) (bcase ((n41 : Int) == (6 : Int)) (ldA H39 ⟨o11, 0, none⟩ 3 fun c159 => onPtr x1 fun a161 => elI .i64 (AH.cell? H39 (qlm a161 1)) fun n163 => qap c159 [(qlk .i64 (0 : Int)), (qlk .i64 n163), (qlR none 0 0)] H39 fun b165 H165 => bcase (!b165) (k (4 : Int) H165) (k (0 : Int) H165)) (ql.j4 x0 x1 k o5 b29 o11 b37 p39 (1 : Int) H39))))))
def ql.ann : Ann := { keep := fun r => match r with  | _ => [], ord := fun r => match r with | 33 => [0, 1, 2, 3, 4, 5, 6, 7] | 44 => [0, 1, 2, 3, 4, 5, 6, 7, 8, 9, 10, 11, 12, 13, 14, 15] | _ => [] }
theorem ql.link {x0 : Option Addr} {x1 : Option Addr} {x2 : List Value} {H : AH} {k : Int → AH → Prop} (h : ql.b x0 x1 x2 H k) : ql x0 x1 x2 H k := lk1 pan hT hm Tryz.func26 (by kernel_rfl) (A := ql.ann) (by kernel_rfl) (by simp) (by kernel_rfl) h
def qad.l1 (x0 : Sl) (x1 : Sl) (k : Bool → AH → Prop) (t4 : Bool × Int) (HL4 : AH) (it4 : (Bool × Int) → AH → Prop) : Prop :=
 bcase (decide ((t4.2 : Int) < ((x0.n : Nat) : Int))) ((0 ≤ t4.2 ∧ t4.2 < ((x0.n : Nat) : Int)) ∧ onPtr x0.a fun a18 => ldA HL4 (qlm a18 (qlr t4.2 * 3)) 3 fun c19 => (0 ≤ t4.2 ∧ t4.2 < ((x1.n : Nat) : Int)) ∧ onPtr x1.a fun a22 => ldA HL4 (qlm a22 (qlr t4.2 * 3)) 3 fun c23 => elO (eqCells [(K.int .i64), (K.int .i64), K.bool] c19 c23) fun e24 => bcase (!e24) (k false HL4) (it4 (t4.1, (qll .i64 (t4.2 + (1 : Int)))) HL4)) (k true HL4)
def qad.b (x0 : Sl) (x1 : Sl) (H : AH) (k : Bool → AH → Prop) : Prop :=
 bcase ((((x0.n : Nat) : Int) : Int) != ((x1.n : Nat) : Int)) (k false H) (loopT (qad.l1 x0 x1 k) ((false, (0 : Int)) : Bool × Int) H)
def qad.ann : Ann := { keep := fun r => match r with | 4 => [(4, .bool), (13, .int .i64)] | _ => [], ord := fun r => match r with | 6 => [0, 1, 2, 3, 4, 5, 6, 7, 8] | _ => [] }
theorem qad.link {x0 : Sl} {x1 : Sl} {H : AH} {k : Bool → AH → Prop} (h : qad.b x0 x1 H k) : qad x0 x1 H k := lk1 pan hT hm Tryz.func80 (by kernel_rfl) (A := qad.ann) (by kernel_rfl) (by simp) (by kernel_rfl) h
def qG.j1 (k : Int → AH → Prop) (t6 : Int × Int) (it6 : (Int × Int) → AH → Prop) (H75 : AH) (x88 : Bool) : Prop :=
 bcase x88 (k (2 : Int) H75) (it6 (t6.1, (qll .i64 (t6.2 + (1 : Int)))) H75)
def qG.l2 (x0 : Option Addr) (x1 : Option Addr) (k : Int → AH → Prop) (s22a : Sl) (t6 : Int × Int) (HL6 : AH) (it6 : (Int × Int) → AH → Prop) : Prop :=
 bcase (decide ((t6.2 : Int) < ((s22a.n : Nat) : Int))) ((0 ≤ t6.2 ∧ t6.2 < ((s22a.n : Nat) : Int)) ∧ onPtr s22a.a fun a54 => ldA HL6 (qlm a54 (qlr t6.2 * 3)) 3 fun c55 => newC HL6 ⟨[(qlk .i64 (0 : Int)), (qlk .i64 (0 : Int)), (qlW false)], .rw, 0⟩ fun o10 H10 => (qly c55 = 3 ∧ ql0 c55 qq = true) ∧ stC H10 ⟨o10, 0, none⟩ c55 fun Hs2 => elB (AH.cell? Hs2 (qlm ⟨o10, 0, none⟩ 2)) fun b57 => bcase (!b57) (it6 (t6.1, (qll .i64 (t6.2 + (1 : Int)))) Hs2) (elI .i64 (AH.cell? Hs2 (qlm ⟨o10, 0, none⟩ 1)) fun n60 => ldA Hs2 ⟨o10, 0, none⟩ 3 fun c65 => qY c65 Hs2 fun n66 H66 => qu x0 [(qlk .i64 (3 : Int)), (qlk .i64 n66), (qlk .i64 (if (qll .i64 ((qll .i64 (n60 - (1 : Int))) * (8 : Int))) < (448 : Int) then (qll .i64 ((qll .i64 (n60 - (1 : Int))) * (8 : Int))) else (448 : Int))), (qlk .i64 (0 : Int)), (qlR none 0 0)] H66 fun c69 H69 => newC H69 ⟨[(qlk .i64 (0 : Int)), (qlk .i64 (0 : Int)), (qlR none 0 0)], .rw, 0⟩ fun o12 H12 => (qly c69 = 3 ∧ ql0 c69 qq = true) ∧ stC H12 ⟨o12, 0, none⟩ c69 fun Hs4 => ldA Hs4 ⟨o10, 0, none⟩ 3 fun c72 => qY c72 Hs4 fun n73 H73 => qaA x1 n73 (if (qll .i64 ((qll .i64 (n60 - (1 : Int))) * (8 : Int))) < (448 : Int) then (qll .i64 ((qll .i64 (n60 - (1 : Int))) * (8 : Int))) else (448 : Int)) H73 fun s75a n75b H75 => elI .i64 (AH.cell? H75 (qlm ⟨o12, 0, none⟩ 0)) fun n79 => bcase ((n79 : Int) != (0 : Int)) (qG.j1 k t6 it6 H75 true) (elL (AH.cell? H75 (qlm ⟨o12, 0, none⟩ 2)) fun s83 => strC H75 s83 fun y84 => strC H75 s75a fun y86 => qG.j1 k t6 it6 H75 (!(qmJ ⟨qlU y84⟩ == qmJ ⟨qlU y86⟩))))) (k (0 : Int) HL6)
def qG.j3 (x0 : Option Addr) (x1 : Option Addr) (k : Int → AH → Prop) (s22a : Sl) (x49 : Bool) (Hj : AH) : Prop :=
 bcase x49 (k (1 : Int) Hj) (loopT (qG.l2 x0 x1 k s22a) (((0 : Int), (0 : Int)) : Int × Int) Hj)
def qG.b (x0 : Option Addr) (x1 : Option Addr) (H : AH) (k : Int → AH → Prop) : Prop :=
 qal x0 H fun s17a n17b H17 => qab s17a H17 fun s22a b22b H22 => bcase ((n17b : Int) != (0 : Int)) (qG.j3 x0 x1 k s22a true H22) (bcase (!b22b) (qG.j3 x0 x1 k s22a true H22) (qac x1 H22 fun s34 H34 => qad s22a s34 H34 fun b35 H35 => bcase (!b35) (qG.j3 x0 x1 k s22a true H35) (onPtr x1 fun a43 => elI .i64 (AH.cell? H35 (qlm a43 1)) fun n45 => qu x0 [(qlk .i64 (6 : Int)), (qlk .i64 (0 : Int)), (qlk .i64 (0 : Int)), (qlk .i64 (0 : Int)), (qlR none 0 0)] H35 fun c41 H41 => AH.cell? H41 (qlm a43 1) = some (qlk .i64 n45) ∧ qap c41 [(qlk .i64 (0 : Int)), (qlk .i64 n45), (qlR none 0 0)] H41 fun b47 H47 => qG.j3 x0 x1 k s22a (!b47) H47)))
def qG.ann : Ann := { keep := fun r => match r with | 6 => [(4, .int .i64), (52, .int .i64)] | _ => [], ord := fun r => match r with | 3 => [0, 1, 2, 3, 4, 5, 6, 7, 8, 9, 10, 11, 12, 13, 14, 15, 17, 18, 19, 20, 21, 16, 22, 23, 24] | _ => [] }
theorem qG.link {x0 : Option Addr} {x1 : Option Addr} {H : AH} {k : Int → AH → Prop} (h : qG.b x0 x1 H k) : qG x0 x1 H k := lk1 pan hT hm Tryz.func28 (by kernel_rfl) (A := qG.ann) (by kernel_rfl) (by simp) (by kernel_rfl) h
def qa5.b (x0 : Option Addr) (x1 : Int) (x2 : Int) (H : AH) (k : AH → Prop) : Prop :=
 bcase (!(ql1 x0)) (onPtr x0 fun a13 => stC H (qlm a13 37) [(qlk .i64 (if (-1 : Int) > x1 then (-1 : Int) else x1))] fun Hs2 => onPtr x0 fun a15 => stC Hs2 (qlm a15 38) [(qlk .i64 x2)] fun Hs4 => k Hs4) (k H)
theorem qa5.link {x0 : Option Addr} {x1 : Int} {x2 : Int} {H : AH} {k : AH → Prop} (h : qa5.b x0 x1 x2 H k) : qa5 x0 x1 x2 H k := lk0 pan hT hm Tryz.func38 (by kernel_rfl) (A := ann0) (by kernel_rfl) (by kernel_rfl) h
def qaN.b (x0 : Option Addr) (H : AH) (k : AH → Prop) : Prop :=
 bcase (!(ql1 x0)) (onPtr x0 fun a6 => stC H (qlm a6 37) [(qlk .i64 (-1 : Int))] fun Hs2 => onPtr x0 fun a8 => stC Hs2 (qlm a8 39) [(qlW false)] fun Hs4 => k Hs4) (k H)
theorem qaN.link {x0 : Option Addr} {H : AH} {k : AH → Prop} (h : qaN.b x0 H k) : qaN x0 H k := lk0 pan hT hm Tryz.func39 (by kernel_rfl) (A := ann0) (by kernel_rfl) (by kernel_rfl) h
def qaO.l1 (x0 : Sl) (x1 : Sl) (k : Bool → AH → Prop) (t4 : Bool × Int) (HL4 : AH) (it4 : (Bool × Int) → AH → Prop) : Prop :=
 bcase (decide ((t4.2 : Int) < ((x0.n : Nat) : Int))) ((0 ≤ t4.2 ∧ t4.2 < ((x0.n : Nat) : Int)) ∧ onPtr x0.a fun a18 => elI .i64 (AH.cell? HL4 (qlm a18 (qlr t4.2 * 1))) fun n19 => (0 ≤ t4.2 ∧ t4.2 < ((x1.n : Nat) : Int)) ∧ onPtr x1.a fun a22 => elI .i64 (AH.cell? HL4 (qlm a22 (qlr t4.2 * 1))) fun n23 => bcase ((n19 : Int) != n23) (k false HL4) (it4 (t4.1, (qll .i64 (t4.2 + (1 : Int)))) HL4)) (k true HL4)
def qaO.b (x0 : Sl) (x1 : Sl) (H : AH) (k : Bool → AH → Prop) : Prop :=
 bcase ((((x0.n : Nat) : Int) : Int) != ((x1.n : Nat) : Int)) (k false H) (loopT (qaO.l1 x0 x1 k) ((false, (0 : Int)) : Bool × Int) H)
def qaO.ann : Ann := { keep := fun r => match r with | 4 => [(4, .bool), (13, .int .i64)] | _ => [], ord := fun r => match r with | 6 => [0, 1, 2, 3, 4, 5, 6, 7, 8] | _ => [] }
theorem qaO.link {x0 : Sl} {x1 : Sl} {H : AH} {k : Bool → AH → Prop} (h : qaO.b x0 x1 H k) : qaO x0 x1 H k := lk1 pan hT hm Tryz.func40 (by kernel_rfl) (A := qaO.ann) (by kernel_rfl) (by simp) (by kernel_rfl) h
def qh.j1 (k : Bool → AH → Prop) (p74 : Option Addr) (p95 : Option Addr) (p176a : Option Addr) (n187 : Int) (n191 : Int) (H225 : AH) (p225a : Option Addr) (x233 : Bool) : Prop :=
 bcase x233 (k false H225) (qG p225a p74 H225 fun n236 H236 => bcase (((n236 : Int) == (0 : Int)) == ((n187 : Int) == (0 : Int))) (qG p225a p95 H236 fun n243 H243 => bcase (((n243 : Int) == (0 : Int)) == ((n191 : Int) == (0 : Int))) (qbd p176a H243 fun s250 H250 => qbd p225a H250 fun s252 H252 => qaO s250 s252 H252 fun b253 H253 => bcase b253 (qbk  H253 fun b256 H256 => k b256 H256) (k false H253)) (k false H243)) (k false H236))
def qh.j2 (k : Bool → AH → Prop) (o7 : Nat) (p60b : Option Addr) (p74 : Option Addr) (p95 : Option Addr) (p176a : Option Addr) (n187 : Int) (H191 : AH) (n191 : Int) (x221 : Bool) : Prop :=
 bcase x221 (k false H191) (ldA H191 ⟨o7, 0, none⟩ 4 fun c224 => qah p60b c224 H191 fun p225a n225b H225 => bcase ((n225b : Int) != (0 : Int)) (qh.j1 k p74 p95 p176a n187 n191 H225 p225a true) (qh.j1 k p74 p95 p176a n187 n191 H225 p225a (ql1 p225a)))
def qh.j3 (k : Bool → AH → Prop) (o7 : Nat) (p60b : Option Addr) (p74 : Option Addr) (p95 : Option Addr) (o27 : Nat) (H176 : AH) (p176a : Option Addr) (x184 : Bool) : Prop :=
 bcase x184 (k false H176) (qG p176a p74 H176 fun n187 H187 => qG p176a p95 H187 fun n191 H191 => elI .i64 (AH.cell? H191 (qlm ⟨o27, 0, none⟩ 0)) fun n194 => bcase ((n194 : Int) == (0 : Int)) (bcase (!((n191 : Int) == (0 : Int))) (qh.j2 k o7 p60b p74 p95 p176a n187 H191 n191 true) (elI .i64 (AH.cell? H191 (qlm ⟨o27, 0, none⟩ 0)) fun n202 => bcase ((n202 : Int) != (0 : Int)) (elI .i64 (AH.cell? H191 (qlm ⟨o27, 0, none⟩ 0)) fun n206 => bcase ((n206 : Int) != (2 : Int)) (bcase (!((n187 : Int) == (0 : Int))) (qh.j2 k o7 p60b p74 p95 p176a n187 H191 n191 true) (bcase (!((n187 : Int) == (0 : Int))) (qh.j2 k o7 p60b p74 p95 p176a n187 H191 n191 (!((n191 : Int) == (0 : Int)))) (qh.j2 k o7 p60b p74 p95 p176a n187 H191 n191 false))) (bcase (!((n187 : Int) == (0 : Int))) (qh.j2 k o7 p60b p74 p95 p176a n187 H191 n191 (!((n191 : Int) == (0 : Int)))) (qh.j2 k o7 p60b p74 p95 p176a n187 H191 n191 false))) (bcase (!((n187 : Int) == (0 : Int))) (qh.j2 k o7 p60b p74 p95 p176a n187 H191 n191 (!((n191 : Int) == (0 : Int)))) (qh.j2 k o7 p60b p74 p95 p176a n187 H191 n191 false)))) (elI .i64 (AH.cell? H191 (qlm ⟨o27, 0, none⟩ 0)) fun n202 => bcase ((n202 : Int) != (0 : Int)) (elI .i64 (AH.cell? H191 (qlm ⟨o27, 0, none⟩ 0)) fun n206 => bcase ((n206 : Int) != (2 : Int)) (bcase (!((n187 : Int) == (0 : Int))) (qh.j2 k o7 p60b p74 p95 p176a n187 H191 n191 true) (bcase (!((n187 : Int) == (0 : Int))) (qh.j2 k o7 p60b p74 p95 p176a n187 H191 n191 (!((n191 : Int) == (0 : Int)))) (qh.j2 k o7 p60b p74 p95 p176a n187 H191 n191 false))) (bcase (!((n187 : Int) == (0 : Int))) (qh.j2 k o7 p60b p74 p95 p176a n187 H191 n191 (!((n191 : Int) == (0 : Int)))) (qh.j2 k o7 p60b p74 p95 p176a n187 H191 n191 false))) (bcase (!((n187 : Int) == (0 : Int))) (qh.j2 k o7 p60b p74 p95 p176a n187 H191 n191 (!((n191 : Int) == (0 : Int)))) (qh.j2 k o7 p60b p74 p95 p176a n187 H191 n191 false))))
def qh.j4 (k : Bool → AH → Prop) (o7 : Nat) (p60b : Option Addr) (p74 : Option Addr) (p95 : Option Addr) (o27 : Nat) (HL31 : AH) : Prop :=
 qaN p60b HL31 fun H172 => ldA H172 ⟨o7, 0, none⟩ 4 fun c175 => qah p60b c175 H172 fun p176a n176b H176 => bcase ((n176b : Int) != (0 : Int)) (qh.j3 k o7 p60b p74 p95 o27 H176 p176a true) (qh.j3 k o7 p60b p74 p95 o27 H176 p176a (ql1 p176a))
def qh.l5 (x5 : Int) (x6 : Sl) (k : Bool → AH → Prop) (o7 : Nat) (p60b : Option Addr) (p74 : Option Addr) (p95 : Option Addr) (o27 : Nat) (t31 : Int) (HL31 : AH) (it31 : (Int) → AH → Prop) : Prop :=
 bcase (decide ((t31 : Int) < ((x6.n : Nat) : Int))) ((0 ≤ t31 ∧ t31 < ((x6.n : Nat) : Int)) ∧ onPtr x6.a fun a154 => elI .i64 (AH.cell? HL31 (qlm a154 (qlr t31 * 1))) fun n155 => qaN p60b HL31 fun H157 => ((60 : Int) : Int) ≠ 0 ∧ qa5 p60b (qll .i64 (qmg (qll .u64 n155) (60 : Int))) (xorI .i64 x5 n155) H157 fun H166 => ldA H166 ⟨o7, 0, none⟩ 4 fun c168 => qah p60b c168 H166 fun p169a n169b H169 => it31 (qll .i64 (t31 + (1 : Int))) H169) (qh.j4 k o7 p60b p74 p95 o27 HL31)
def qh.j6 (x4 : Int) (x5 : Int) (x6 : Sl) (k : Bool → AH → Prop) (o7 : Nat) (o10 : Nat) (p60a : Option Addr) (p60b : Option Addr) (p74 : Option Addr) (p95 : Option Addr) (Hj : AH) : Prop :=
 ((80 : Int) : Int) ≠ 0 ∧ qa5 p60b (qll .i64 (qmg (qll .u64 x4) (80 : Int))) x5 Hj fun H146 => ldA H146 ⟨o10, 0, none⟩ 5 fun c148 => qu p60a c148 H146 fun c149 H149 => newC H149 ⟨[(qlk .i64 (0 : Int)), (qlk .i64 (0 : Int)), (qlR none 0 0)], .rw, 0⟩ fun o27 H27 => (qly c149 = 3 ∧ ql0 c149 qq = true) ∧ stC H27 ⟨o27, 0, none⟩ c149 fun Hs4 => loopT (qh.l5 x5 x6 k o7 p60b p74 p95 o27) (((0 : Int)) : Int) Hs4
def qh.j7 (x4 : Int) (x5 : Int) (x6 : Sl) (k : Bool → AH → Prop) (o7 : Nat) (o10 : Nat) (p60a : Option Addr) (p60b : Option Addr) (p74 : Option Addr) (HL9 : AH) : Prop :=
 qal p60a HL9 fun s89a n89b H89 => qbd p60a H89 fun s93 H93 => qae p74 H93 fun p95 H95 => elI .i64 (AH.cell? H95 (qlm ⟨o10, 0, none⟩ 0)) fun n97 => bcase ((n97 : Int) == (1 : Int)) (elI .i64 (AH.cell? H95 (qlm ⟨o10, 0, none⟩ 2)) fun n103 => qan s89a n103 s93 H95 fun s105a n105b n105c H105 => bcase ((n105c : Int) == (0 : Int)) (onPtr p95 fun a113 => elL (AH.cell? H105 (qlm a113 0)) fun s115 => qM s115 s105a H105 fun s117 H117 => onPtr p95 fun a118 => stC H117 (qlm a118 0) [(Sl.val s117)] fun Hs6 => qh.j6 x4 x5 x6 k o7 o10 p60a p60b p74 p95 Hs6) (qh.j6 x4 x5 x6 k o7 o10 p60a p60b p74 p95 H105)) (bcase ((n97 : Int) == (2 : Int)) (elI .i64 (AH.cell? H95 (qlm ⟨o10, 0, none⟩ 1)) fun n124 => qaB p95 n124 H95 fun n125 H125 => qh.j6 x4 x5 x6 k o7 o10 p60a p60b p74 p95 H125) (bcase ((n97 : Int) == (4 : Int)) (elI .i64 (AH.cell? H95 (qlm ⟨o10, 0, none⟩ 1)) fun n130 => elL (AH.cell? H95 (qlm ⟨o10, 0, none⟩ 4)) fun s132 => qav p95 n130 s132 H95 fun n133 H133 => qh.j6 x4 x5 x6 k o7 o10 p60a p60b p74 p95 H133) (bcase ((n97 : Int) == (5 : Int)) (elI .i64 (AH.cell? H95 (qlm ⟨o10, 0, none⟩ 1)) fun n138 => qD p95 n138 H95 fun n139 H139 => qh.j6 x4 x5 x6 k o7 o10 p60a p60b p74 p95 H139) (qh.j6 x4 x5 x6 k o7 o10 p60a p60b p74 p95 H95))))
def qh.l8 (x2 : Sl) (x4 : Int) (x5 : Int) (x6 : Sl) (k : Bool → AH → Prop) (o7 : Nat) (o10 : Nat) (p60a : Option Addr) (p60b : Option Addr) (p74 : Option Addr) (t9 : Bool × Int) (HL9 : AH) (it9 : (Bool × Int) → AH → Prop) : Prop :=
 bcase (decide ((t9.2 : Int) < ((x2.n : Nat) : Int))) ((0 ≤ t9.2 ∧ t9.2 < ((x2.n : Nat) : Int)) ∧ onPtr x2.a fun a79 => ldA HL9 (qlm a79 (qlr t9.2 * 5)) 5 fun c80 => newC HL9 ⟨[(qlk .i64 (0 : Int)), (qlk .i64 (0 : Int)), (qlk .i64 (0 : Int)), (qlk .i64 (0 : Int)), (qlR none 0 0)], .rw, 0⟩ fun o19 H19 => (qly c80 = 5 ∧ ql0 c80 qq = true) ∧ stC H19 ⟨o19, 0, none⟩ c80 fun Hs8 => ldA Hs8 ⟨o19, 0, none⟩ 5 fun c83 => ql p60a p74 c83 Hs8 fun n84 H84 => bcase ((n84 : Int) != (0 : Int)) (k false H84) (it9 (t9.1, (qll .i64 (t9.2 + (1 : Int)))) H84)) (qh.j7 x4 x5 x6 k o7 o10 p60a p60b p74 HL9)
def qh.j9 (x1 : Sl) (x2 : Sl) (x4 : Int) (x5 : Int) (x6 : Sl) (k : Bool → AH → Prop) (o7 : Nat) (o10 : Nat) (H40 : AH) (x46 : Bool) : Prop :=
 bcase x46 (qbk  H40 fun b47 H47 => k b47 H47) (elI .i64 (AH.cell? H40 (qlm ⟨o7, 0, none⟩ 0)) fun n49 => elI .i64 (AH.cell? H40 (qlm ⟨o7, 0, none⟩ 1)) fun n51 => elI .i64 (AH.cell? H40 (qlm ⟨o7, 0, none⟩ 2)) fun n53 => elI .i64 (AH.cell? H40 (qlm ⟨o7, 0, none⟩ 3)) fun n55 => qbg n49 n51 n53 n55 H40 fun c56 H56 => (qly c56 = 4 ∧ ql0 c56 qq = true) ∧ stC H56 ⟨o7, 0, none⟩ c56 fun Hs2 => ldA Hs2 ⟨o7, 0, none⟩ 4 fun c58 => qaZ c58 x1 Hs2 fun p60a p60b H60 => bcase (ql1 p60a) (bcase (decide ((((x1.n : Nat) : Int) : Int) > (0 : Int))) (qbk  H60 fun b69 H69 => k b69 H69) (k false H60)) (elI .i64 (AH.cell? H60 (qlm ⟨o7, 0, none⟩ 0)) fun n72 => qa8 (qll .i64 (n72 * (8 : Int))) H60 fun p74 H74 => loopT (qh.l8 x2 x4 x5 x6 k o7 o10 p60a p60b p74) ((false, (0 : Int)) : Bool × Int) H74))
def qh.b (x0 : List Value) (x1 : Sl) (x2 : Sl) (x3 : List Value) (x4 : Int) (x5 : Int) (x6 : Sl) (H : AH) (k : Bool → AH → Prop) : Prop :=
 newC H ⟨x0, .rw, 0⟩ fun o7 H7 => newC H7 ⟨x3, .rw, 0⟩ fun o10 H10 => ldA H10 ⟨o10, 0, none⟩ 5 fun c35 => (qly c35 = 5) ∧ newC H10 ⟨(setMany [(qlk .i64 (0 : Int)), (qlk .i64 (0 : Int)), (qlk .i64 (0 : Int)), (qlk .i64 (0 : Int)), (qlR none 0 0)] 0 c35), .rw, 5⟩ fun o36 H36 => appendC 5 H36 ⟨(some ⟨o36, 0, none⟩), 1, 1⟩ x2 fun s38 H38 => qA s38 x1 H38 fun n40 H40 => bcase (decide ((n40 : Int) > (0 : Int))) (qh.j9 x1 x2 x4 x5 x6 k o7 o10 H40 true) (qh.j9 x1 x2 x4 x5 x6 k o7 o10 H40 (decide ((((x6.n : Nat) : Int) : Int) > (6 : Int))))
def qh.ann : Ann := { keep := fun r => match r with | 9 => [(14, .bool), (77, .int .i64)] | 31 => [(152, .int .i64)] | _ => [], ord := fun r => match r with  | _ => [] }
theorem qh.link {x0 : List Value} {x1 : Sl} {x2 : Sl} {x3 : List Value} {x4 : Int} {x5 : Int} {x6 : Sl} {H : AH} {k : Bool → AH → Prop} (h : qh.b x0 x1 x2 x3 x4 x5 x6 H k) : qh x0 x1 x2 x3 x4 x5 x6 H k := lk1 pan hT hm Tryz.func7 (by kernel_rfl) (A := qh.ann) (by kernel_rfl) (by simp) (by kernel_rfl) h
def qaK.b (x0 : Int) (H : AH) (pk : Value → AH → Prop) (k : AH → Prop) : Prop :=
 bcase ((x0 : Int) != (0 : Int)) (pk (Value.iface 37 (qlk .i64 x0)) H) (k H)
theorem qaK.link {x0 : Int} {H : AH} {pk : Value → AH → Prop} {k : AH → Prop} (h : qaK.b x0 H pk k) : qaK x0 H pk k := lk0 pan hT hm Tryz.func100 (by kernel_rfl) (A := ann0) (by kernel_rfl) (by kernel_rfl) h
def qbn.b (x0 : Option Addr) (H : AH) (pk : Value → AH → Prop) (k : Sl → AH → Prop) : Prop :=
 qal x0 H fun s7a n7b H7 => qaK n7b H7 (fun pv11 Hp11 => pk pv11 Hp11) fun H11 => k s7a H11
theorem qbn.link {x0 : Option Addr} {H : AH} {pk : Value → AH → Prop} {k : Sl → AH → Prop} (h : qbn.b x0 H pk k) : qbn x0 H pk k := lk1 pan hT hm Tryz.func96 (by kernel_rfl) (A := ann0) (by kernel_rfl) (by simp) (by kernel_rfl) h
def qcf.j1 (x0 : Int) (H : AH) (k : Int → AH → Prop) (x8 : Bool) : Prop :=
 bcase x8 (k (0 : Int) H) (((8 : Int) : Int) ≠ 0 ∧ k (qll .i64 ((qll .i64 (qmo (qll .i64 (x0 + (7 : Int))) (8 : Int))) + (1 : Int))) H)
def qcf.b (x0 : Int) (H : AH) (k : Int → AH → Prop) : Prop :=
 bcase (decide ((x0 : Int) < (1 : Int))) (qcf.j1 x0 H k true) (qcf.j1 x0 H k (decide ((x0 : Int) > (448 : Int))))
theorem qcf.link {x0 : Int} {H : AH} {k : Int → AH → Prop} (h : qcf.b x0 H k) : qcf x0 H k := lk1 pan hT hm Tryz.func97 (by kernel_rfl) (A := ann0) (by kernel_rfl) (by simp) (by kernel_rfl) h
def qaT.b (x0 : Option Addr) (H : AH) (pk : Value → AH → Prop) (k : AH → Prop) : Prop :=
 qbw x0 H fun b3 H3 => bcase b3 (pk (Value.iface 37 (qlk .i64 (3 : Int))) H3) (k H3)
theorem qaT.link {x0 : Option Addr} {H : AH} {pk : Value → AH → Prop} {k : AH → Prop} (h : qaT.b x0 H pk k) : qaT x0 H pk k := lk0 pan hT hm Tryz.func98 (by kernel_rfl) (A := ann0) (by kernel_rfl) (by kernel_rfl) h
def qaw.j1 (t3 : Sl × Int) (it3 : (Sl × Int) → AH → Prop) (Hs2 : AH) (x5 : Sl) (x56 : Bool) : Prop :=
 bcase x56 (newC Hs2 ⟨[(qlk .i64 t3.2)], .rw, 1⟩ fun o59 H59 => appendC 1 H59 x5 ⟨(some ⟨o59, 0, none⟩), 1, 1⟩ fun s60 H60 => it3 (s60, (qll .i64 (t3.2 + (1 : Int)))) H60) (it3 (x5, (qll .i64 (t3.2 + (1 : Int)))) Hs2)
def qaw.j2 (x0 : Sl) (t3 : Sl × Int) (it3 : (Sl × Int) → AH → Prop) (o7 : Nat) (Hs2 : AH) (x5 : Sl) : Prop :=
 bcase ((((x5.n : Nat) : Int) : Int) == (0 : Int)) (qaw.j1 t3 it3 Hs2 x5 true) (elI .i64 (AH.cell? Hs2 (qlm ⟨o7, 0, none⟩ 1)) fun n47 => (0 ≤ (0 : Int) ∧ (0 : Int) < ((x5.n : Nat) : Int)) ∧ onPtr x5.a fun a50 => elI .i64 (AH.cell? Hs2 (qlm a50 (qlr (0 : Int) * 1))) fun n51 => (0 ≤ n51 ∧ n51 < ((x0.n : Nat) : Int)) ∧ onPtr x0.a fun a52 => elI .i64 (AH.cell? Hs2 (qlm (qlm a52 (qlr n51 * 3)) 1)) fun n54 => qaw.j1 t3 it3 Hs2 x5 ((n47 : Int) == n54))
def qaw.j3 (x0 : Sl) (t3 : Sl × Int) (it3 : (Sl × Int) → AH → Prop) (o7 : Nat) (Hs2 : AH) (x41 : Bool) : Prop :=
 bcase x41 (qaw.j2 x0 t3 it3 o7 Hs2 ⟨none, 0, 0⟩) (qaw.j2 x0 t3 it3 o7 Hs2 t3.1)
def qaw.j4 (x0 : Sl) (t3 : Sl × Int) (it3 : (Sl × Int) → AH → Prop) (o7 : Nat) (Hs2 : AH) (x26 : Bool) : Prop :=
 bcase x26 (it3 (t3.1, (qll .i64 (t3.2 + (1 : Int)))) Hs2) (bcase (decide ((((t3.1.n : Nat) : Int) : Int) > (0 : Int))) (elI .i64 (AH.cell? Hs2 (qlm ⟨o7, 0, none⟩ 1)) fun n32 => (0 ≤ (0 : Int) ∧ (0 : Int) < ((t3.1.n : Nat) : Int)) ∧ onPtr t3.1.a fun a35 => elI .i64 (AH.cell? Hs2 (qlm a35 (qlr (0 : Int) * 1))) fun n36 => (0 ≤ n36 ∧ n36 < ((x0.n : Nat) : Int)) ∧ onPtr x0.a fun a37 => elI .i64 (AH.cell? Hs2 (qlm (qlm a37 (qlr n36 * 3)) 1)) fun n39 => qaw.j3 x0 t3 it3 o7 Hs2 (decide ((n32 : Int) < n39))) (qaw.j3 x0 t3 it3 o7 Hs2 false))
def qaw.l5 (x0 : Sl) (x1 : Int) (k : Sl → AH → Prop) (t3 : Sl × Int) (HL3 : AH) (it3 : (Sl × Int) → AH → Prop) : Prop :=
 bcase (decide ((t3.2 : Int) < ((x0.n : Nat) : Int))) ((0 ≤ t3.2 ∧ t3.2 < ((x0.n : Nat) : Int)) ∧ onPtr x0.a fun a13 => ldA HL3 (qlm a13 (qlr t3.2 * 3)) 3 fun c14 => newC HL3 ⟨[(qlk .i64 (0 : Int)), (qlk .i64 (0 : Int)), (qlW false)], .rw, 0⟩ fun o7 H7 => (qly c14 = 3 ∧ ql0 c14 qq = true) ∧ stC H7 ⟨o7, 0, none⟩ c14 fun Hs2 => bcase (decide ((x1 : Int) < (2 : Int))) (qaw.j4 x0 t3 it3 o7 Hs2 true) (elB (AH.cell? Hs2 (qlm ⟨o7, 0, none⟩ 2)) fun b19 => bcase b19 (qaw.j4 x0 t3 it3 o7 Hs2 true) (elI .i64 (AH.cell? Hs2 (qlm ⟨o7, 0, none⟩ 1)) fun n23 => qaw.j4 x0 t3 it3 o7 Hs2 (decide ((n23 : Int) < x1))))) (k t3.1 HL3)
def qaw.b (x0 : Sl) (x1 : Int) (H : AH) (k : Sl → AH → Prop) : Prop :=
 loopT (qaw.l5 x0 x1 k) ((⟨none, 0, 0⟩, (0 : Int)) : Sl × Int) H
def qaw.ann : Ann := { keep := fun r => match r with | 3 => [(5, .sl), (10, .int .i64)] | _ => [], ord := fun r => match r with | 6 => [0, 1, 2, 3, 4, 5, 6, 7, 8, 9, 10, 11, 12, 13, 14] | 8 => [0, 1, 2, 3, 4, 5, 6, 7, 8, 9, 10, 11, 12, 13, 14] | _ => [] }
theorem qaw.link {x0 : Sl} {x1 : Int} {H : AH} {k : Sl → AH → Prop} (h : qaw.b x0 x1 H k) : qaw x0 x1 H k := lk1 pan hT hm Tryz.func162 (by kernel_rfl) (A := qaw.ann) (by kernel_rfl) (by simp) (by kernel_rfl) h
def qbZ.j1 (x1 : Sl) (k : Int → AH → Prop) (o2 : Nat) (H2 : AH) (x15 : Bool) : Prop :=
 bcase x15 (k (0 : Int) H2) (elI .i64 (AH.cell? H2 (qlm ⟨o2, 0, none⟩ 0)) fun n18 => ((32 : Int) : Int) ≠ 0 ∧ (0 ≤ (qll .i64 (qmo n18 (32 : Int))) ∧ (qll .i64 (qmo n18 (32 : Int))) < ((x1.n : Nat) : Int)) ∧ onPtr x1.a fun a20 => elI .i64 (AH.cell? H2 (qlm a20 (qlr (qll .i64 (qmo n18 (32 : Int))) * 1))) fun n21 => k n21 H2)
def qbZ.b (x0 : List Value) (x1 : Sl) (H : AH) (k : Int → AH → Prop) : Prop :=
 newC H ⟨x0, .rw, 0⟩ fun o2 H2 => elI .i64 (AH.cell? H2 (qlm ⟨o2, 0, none⟩ 0)) fun n6 => bcase (decide ((n6 : Int) < (0 : Int))) (qbZ.j1 x1 k o2 H2 true) (elI .i64 (AH.cell? H2 (qlm ⟨o2, 0, none⟩ 0)) fun n10 => ((32 : Int) : Int) ≠ 0 ∧ qbZ.j1 x1 k o2 H2 (decide (((qll .i64 (qmo n10 (32 : Int))) : Int) ≥ ((x1.n : Nat) : Int))))
theorem qbZ.link {x0 : List Value} {x1 : Sl} {H : AH} {k : Int → AH → Prop} (h : qbZ.b x0 x1 H k) : qbZ x0 x1 H k := lk1 pan hT hm Tryz.func163 (by kernel_rfl) (A := ann0) (by kernel_rfl) (by simp) (by kernel_rfl) h
def qa7.j1 (t3 : Int × Int) (it3 : (Int × Int) → AH → Prop) (n19 : Int) (H34 : AH) (x55 : Bool) : Prop :=
 bcase x55 (it3 (n19, (qll .i64 (t3.2 + (1 : Int)))) H34) (it3 (t3.1, (qll .i64 (t3.2 + (1 : Int)))) H34)
def qa7.l2 (x0 : Sl) (x2 : Sl) (k : Int → AH → Prop) (s14 : Sl) (t3 : Int × Int) (HL3 : AH) (it3 : (Int × Int) → AH → Prop) : Prop :=
 bcase (decide ((t3.2 : Int) < ((s14.n : Nat) : Int))) ((0 ≤ t3.2 ∧ t3.2 < ((s14.n : Nat) : Int)) ∧ onPtr s14.a fun a18 => elI .i64 (AH.cell? HL3 (qlm a18 (qlr t3.2 * 1))) fun n19 => bcase (decide ((t3.1 : Int) < (0 : Int))) (it3 (n19, (qll .i64 (t3.2 + (1 : Int)))) HL3) ((0 ≤ n19 ∧ n19 < ((x0.n : Nat) : Int)) ∧ onPtr x0.a fun a25 => ldA HL3 (qlm a25 (qlr n19 * 3)) 3 fun c26 => (0 ≤ t3.1 ∧ t3.1 < ((x0.n : Nat) : Int)) ∧ onPtr x0.a fun a31 => ldA HL3 (qlm a31 (qlr t3.1 * 3)) 3 fun c32 => qbZ c26 x2 HL3 fun n28 H28 => AH.row? H28 (qlm a31 (qlr t3.1 * 3)) 3 = some c32 ∧ qbZ c32 x2 H28 fun n34 H34 => bcase (decide ((n28 : Int) < n34)) (qa7.j1 t3 it3 n19 H34 true) (bcase ((n28 : Int) == n34) ((0 ≤ n19 ∧ n19 < ((x0.n : Nat) : Int)) ∧ onPtr x0.a fun a45 => elI .i64 (AH.cell? H34 (qlm (qlm a45 (qlr n19 * 3)) 0)) fun n47 => (0 ≤ t3.1 ∧ t3.1 < ((x0.n : Nat) : Int)) ∧ onPtr x0.a fun a50 => elI .i64 (AH.cell? H34 (qlm (qlm a50 (qlr t3.1 * 3)) 0)) fun n52 => qa7.j1 t3 it3 n19 H34 (decide ((n47 : Int) < n52))) (qa7.j1 t3 it3 n19 H34 false)))) (k t3.1 HL3)
def qa7.b (x0 : Sl) (x1 : Int) (x2 : Sl) (H : AH) (k : Int → AH → Prop) : Prop :=
 qaw x0 x1 H fun s14 H14 => loopT (qa7.l2 x0 x2 k s14) (((-1 : Int), (0 : Int)) : Int × Int) H14
def qa7.ann : Ann := { keep := fun r => match r with | 3 => [(7, .int .i64), (16, .int .i64)] | _ => [], ord := fun r => match r with | 7 => [0, 1, 2, 3, 4, 6, 7, 8, 9, 10, 5, 11, 12, 13] | 8 => [0, 1, 2, 3, 4, 5, 6, 7, 8, 9, 10, 11, 12, 13, 14, 15, 16, 17, 18, 19, 20] | _ => [] }
theorem qa7.link {x0 : Sl} {x1 : Int} {x2 : Sl} {H : AH} {k : Int → AH → Prop} (h : qa7.b x0 x1 x2 H k) : qa7 x0 x1 x2 H k := lk1 pan hT hm Tryz.func134 (by kernel_rfl) (A := qa7.ann) (by kernel_rfl) (by simp) (by kernel_rfl) h
def qa9.j1 (k : Int → AH → Prop) (t3 : Int × Int × Int) (it3 : (Int × Int × Int) → AH → Prop) (o5 : Nat) (H14 : AH) (x19 : Bool) : Prop :=
 bcase x19 (k (0 : Int) H14) (elI .i64 (AH.cell? H14 (qlm ⟨o5, 0, none⟩ 1)) fun n22 => it3 (t3.1, (qll .i64 (t3.2.1 + n22)), (qll .i64 (t3.2.2 + (1 : Int)))) H14)
def qa9.l2 (x0 : Sl) (k : Int → AH → Prop) (t3 : Int × Int × Int) (HL3 : AH) (it3 : (Int × Int × Int) → AH → Prop) : Prop :=
 bcase (decide ((t3.2.2 : Int) < ((x0.n : Nat) : Int))) ((0 ≤ t3.2.2 ∧ t3.2.2 < ((x0.n : Nat) : Int)) ∧ onPtr x0.a fun a10 => ldA HL3 (qlm a10 (qlr t3.2.2 * 3)) 3 fun c11 => newC HL3 ⟨[(qlk .i64 (0 : Int)), (qlk .i64 (0 : Int)), (qlW false)], .rw, 0⟩ fun o5 H5 => (qly c11 = 3 ∧ ql0 c11 qq = true) ∧ stC H5 ⟨o5, 0, none⟩ c11 fun Hs2 => elI .i64 (AH.cell? Hs2 (qlm ⟨o5, 0, none⟩ 1)) fun n13 => qbF n13 Hs2 fun b14 H14 => bcase (!b14) (qa9.j1 k t3 it3 o5 H14 true) (qa9.j1 k t3 it3 o5 H14 (decide ((t3.2.1 : Int) > (512 : Int))))) (k t3.2.1 HL3)
def qa9.b (x0 : Sl) (H : AH) (k : Int → AH → Prop) : Prop :=
 loopT (qa9.l2 x0 k) (((0 : Int), (0 : Int), (0 : Int)) : Int × Int × Int) H
def qa9.ann : Ann := { keep := fun r => match r with | 3 => [(2, .int .i64), (3, .int .i64), (8, .int .i64)] | _ => [], ord := fun r => match r with  | _ => [] }
theorem qa9.link {x0 : Sl} {H : AH} {k : Int → AH → Prop} (h : qa9.b x0 H k) : qa9 x0 H k := lk1 pan hT hm Tryz.func178 (by kernel_rfl) (A := qa9.ann) (by kernel_rfl) (by simp) (by kernel_rfl) h
def qcg.j1 (x0 : Int) (x1 : Int) (H : AH) (k : Int → AH → Prop) (x5 : Bool) : Prop :=
 bcase x5 (k (0 : Int) H) (bcase (decide (((qll .i64 (x0 - x1)) : Int) < (2 : Int))) (k x0 H) (k x1 H))
def qcg.b (x0 : Int) (x1 : Int) (H : AH) (k : Int → AH → Prop) : Prop :=
 bcase (decide ((x1 : Int) < (2 : Int))) (qcg.j1 x0 x1 H k true) (qcg.j1 x0 x1 H k (decide ((x1 : Int) > x0)))
theorem qcg.link {x0 : Int} {x1 : Int} {H : AH} {k : Int → AH → Prop} (h : qcg.b x0 x1 H k) : qcg x0 x1 H k := lk1 pan hT hm Tryz.func179 (by kernel_rfl) (A := ann0) (by kernel_rfl) (by simp) (by kernel_rfl) h
def qbt.j1 (x0 : Sl) (x1 : Int) (x2 : Int) (k : Sl → AH → Prop) (H13 : AH) (x31 : Bool) : Prop :=
 bcase x31 (k ⟨none, 0, 0⟩ H13) ((0 ≤ x1 ∧ x1 < ((x0.n : Nat) : Int)) ∧ onPtr x0.a fun a34 => ldA H13 (qlm a34 (qlr x1 * 3)) 3 fun c35 => newC H13 ⟨[(qlk .i64 (0 : Int)), (qlk .i64 (0 : Int)), (qlW false)], .rw, 0⟩ fun o7 H7 => (qly c35 = 3 ∧ ql0 c35 qq = true) ∧ stC H7 ⟨o7, 0, none⟩ c35 fun Hs2 => elI .i64 (AH.cell? Hs2 (qlm ⟨o7, 0, none⟩ 1)) fun n37 => qcg n37 x2 Hs2 fun n39 H39 => bcase ((n39 : Int) == (0 : Int)) (k ⟨none, 0, 0⟩ H39) (elI .i64 (AH.cell? H39 (qlm ⟨o7, 0, none⟩ 0)) fun n43 => (qly [(qlk .i64 n43), (qlk .i64 n39), (qlW true)] = 3) ∧ newC H39 ⟨[(qlk .i64 n43), (qlk .i64 n39), (qlW true)], .rw, 3⟩ fun o46 H46 => elI .i64 (AH.cell? H46 (qlm ⟨o7, 0, none⟩ 1)) fun n49 => bcase (decide ((n39 : Int) < n49)) (elI .i64 (AH.cell? H46 (qlm ⟨o7, 0, none⟩ 0)) fun n53 => elI .i64 (AH.cell? H46 (qlm ⟨o7, 0, none⟩ 1)) fun n57 => (qly [(qlk .i64 (qll .i64 (n53 + n39))), (qlk .i64 (qll .i64 (n57 - n39))), (qlW false)] = 3) ∧ newC H46 ⟨[(qlk .i64 (qll .i64 (n53 + n39))), (qlk .i64 (qll .i64 (n57 - n39))), (qlW false)], .rw, 3⟩ fun o61 H61 => appendC 3 H61 ⟨(some ⟨o46, 0, none⟩), 1, 1⟩ ⟨(some ⟨o61, 0, none⟩), 1, 1⟩ fun s62 H62 => k s62 H62) (k ⟨(some ⟨o46, 0, none⟩), 1, 1⟩ H46)))
def qbt.b (x0 : Sl) (x1 : Int) (x2 : Int) (H : AH) (k : Sl → AH → Prop) : Prop :=
 qa9 x0 H fun n12 H12 => qax x0 n12 H12 fun b13 H13 => bcase (!b13) (qbt.j1 x0 x1 x2 k H13 true) (bcase (decide ((x1 : Int) < (0 : Int))) (qbt.j1 x0 x1 x2 k H13 true) (bcase (decide ((x1 : Int) ≥ ((x0.n : Nat) : Int))) (qbt.j1 x0 x1 x2 k H13 true) ((0 ≤ x1 ∧ x1 < ((x0.n : Nat) : Int)) ∧ onPtr x0.a fun a28 => elB (AH.cell? H13 (qlm (qlm a28 (qlr x1 * 3)) 2)) fun b30 => qbt.j1 x0 x1 x2 k H13 b30)))
theorem qbt.link {x0 : Sl} {x1 : Int} {x2 : Int} {H : AH} {k : Sl → AH → Prop} (h : qbt.b x0 x1 x2 H k) : qbt x0 x1 x2 H k := lk1 pan hT hm Tryz.func164 (by kernel_rfl) (A := ann0) (by kernel_rfl) (by simp) (by kernel_rfl) h
def qaD.j1 (t3 : Sl × Int) (it3 : (Sl × Int) → AH → Prop) (o9 : Nat) (t7 : Sl × Int) (it7 : (Sl × Int) → AH → Prop) (HL7 : AH) (x38 : Bool) : Prop :=
 bcase x38 (elI .i64 (AH.cell? HL7 (qlm ⟨o9, 0, none⟩ 0)) fun n43 => (qly [(qlk .i64 (qll .i64 (n43 + t7.2))), (qlk .u64 (0 : Int))] = 2) ∧ newC HL7 ⟨[(qlk .i64 (qll .i64 (n43 + t7.2))), (qlk .u64 (0 : Int))], .rw, 2⟩ fun o47 H47 => appendC 2 H47 t7.1 ⟨(some ⟨o47, 0, none⟩), 1, 1⟩ fun s48 H48 => it7 (s48, (qll .i64 (t7.2 + (1 : Int)))) H48) (it3 (t7.1, (qll .i64 (t3.2 + (1 : Int)))) HL7)
def qaD.l2 (t3 : Sl × Int) (it3 : (Sl × Int) → AH → Prop) (o9 : Nat) (t7 : Sl × Int) (HL7 : AH) (it7 : (Sl × Int) → AH → Prop) : Prop :=
 elI .i64 (AH.cell? HL7 (qlm ⟨o9, 0, none⟩ 1)) fun n33 => bcase (decide ((t7.2 : Int) < n33)) (elB (AH.cell? HL7 (qlm ⟨o9, 0, none⟩ 2)) fun b37 => qaD.j1 t3 it3 o9 t7 it7 HL7 b37) (qaD.j1 t3 it3 o9 t7 it7 HL7 false)
def qaD.l3 (k : Sl → AH → Prop) (s14 : Sl) (t3 : Sl × Int) (HL3 : AH) (it3 : (Sl × Int) → AH → Prop) : Prop :=
 bcase (decide ((t3.2 : Int) < ((s14.n : Nat) : Int))) ((0 ≤ t3.2 ∧ t3.2 < ((s14.n : Nat) : Int)) ∧ onPtr s14.a fun a18 => ldA HL3 (qlm a18 (qlr t3.2 * 3)) 3 fun c19 => newC HL3 ⟨[(qlk .i64 (0 : Int)), (qlk .i64 (0 : Int)), (qlW false)], .rw, 0⟩ fun o9 H9 => (qly c19 = 3 ∧ ql0 c19 qq = true) ∧ stC H9 ⟨o9, 0, none⟩ c19 fun Hs2 => elI .i64 (AH.cell? Hs2 (qlm ⟨o9, 0, none⟩ 0)) fun n22 => elI .i64 (AH.cell? Hs2 (qlm ⟨o9, 0, none⟩ 1)) fun n24 => elB (AH.cell? Hs2 (qlm ⟨o9, 0, none⟩ 2)) fun b26 => qb4 n24 b26 Hs2 fun n27 H27 => AH.cell? H27 (qlm ⟨o9, 0, none⟩ 0) = some (qlk .i64 n22) ∧ (qly [(qlk .i64 n22), (qlk .u64 n27)] = 2) ∧ newC H27 ⟨[(qlk .i64 n22), (qlk .u64 n27)], .rw, 2⟩ fun o29 H29 => appendC 2 H29 t3.1 ⟨(some ⟨o29, 0, none⟩), 1, 1⟩ fun s30 H30 => loopT (qaD.l2 t3 it3 o9) ((s30, (1 : Int)) : Sl × Int) H30) (k t3.1 HL3)
def qaD.b (x0 : Sl) (x1 : Int) (x2 : Int) (H : AH) (k : Sl → AH → Prop) : Prop :=
 qbt x0 x1 x2 H fun s14 H14 => loopT (qaD.l3 k s14) ((⟨none, 0, 0⟩, (0 : Int)) : Sl × Int) H14
def qaD.ann : Ann := { keep := fun r => match r with | 3 => [(7, .sl), (16, .int .i64)] | 7 => [(7, .sl), (10, .int .i64)] | _ => [], ord := fun r => match r with | 5 => [0, 1, 2, 3, 4, 5, 6, 7, 8, 9, 10, 11] | _ => [] }
theorem qaD.link {x0 : Sl} {x1 : Int} {x2 : Int} {H : AH} {k : Sl → AH → Prop} (h : qaD.b x0 x1 x2 H k) : qaD x0 x1 x2 H k := lk1 pan hT hm Tryz.func135 (by kernel_rfl) (A := qaD.ann) (by kernel_rfl) (by simp) (by kernel_rfl) h
def qcc.b (x0 : Sl) (x1 : Int) (x2 : Sl) (H : AH) (k : Sl → Int → Int → AH → Prop) : Prop :=
 qcf x1 H fun n14 H14 => bcase ((n14 : Int) == (0 : Int)) (k ⟨none, 0, 0⟩ (0 : Int) (1 : Int) H14) (qab x0 H14 fun s19a b19b H19 => bcase (!b19b) (k ⟨none, 0, 0⟩ (0 : Int) (6 : Int) H19) (qa7 s19a n14 x2 H19 fun n27 H27 => bcase (decide ((n27 : Int) < (0 : Int))) (k ⟨none, 0, 0⟩ (0 : Int) (4 : Int) H27) ((0 ≤ n27 ∧ n27 < ((s19a.n : Nat) : Int)) ∧ onPtr s19a.a fun a36 => ldA H27 (qlm a36 (qlr n27 * 3)) 3 fun c37 => qaD s19a n27 n14 H27 fun s33 H33 => AH.row? H33 (qlm a36 (qlr n27 * 3)) 3 = some c37 ∧ qbE c37 H33 fun n38 H38 => k s33 n38 (0 : Int) H38)))
def qcc.ann : Ann := { keep := fun r => match r with  | _ => [], ord := fun r => match r with | 10 => [0, 1, 2, 4, 5, 6, 7, 3, 8, 9, 10, 11] | _ => [] }
theorem qcc.link {x0 : Sl} {x1 : Int} {x2 : Sl} {H : AH} {k : Sl → Int → Int → AH → Prop} (h : qcc.b x0 x1 x2 H k) : qcc x0 x1 x2 H k := lk3 pan hT hm Tryz.func99 (by kernel_rfl) (A := qcc.ann) (by kernel_rfl) (by simp) (by simp) (by simp) (by kernel_rfl) h
def qaC.b (x0 : Sl) (H : AH) (k : Sl → AH → Prop) : Prop :=
 bcase (ql1 x0.a) (k ⟨none, 0, 0⟩ H) (newC H ⟨[], .rw, 1⟩ fun o5 H5 => appendC 1 H5 ⟨(some ⟨o5, 0, none⟩), 0, 1⟩ x0 fun s7 H7 => k s7 H7)
theorem qaC.link {x0 : Sl} {H : AH} {k : Sl → AH → Prop} (h : qaC.b x0 H k) : qaC x0 H k := lk1 pan hT hm Tryz.func165 (by kernel_rfl) (A := ann0) (by kernel_rfl) (by simp) (by kernel_rfl) h
def qbi.j1 (s9 : Sl) (t3 : Int) (it3 : (Int) → AH → Prop) (o7 : Nat) (Hs2 : AH) (x25 : Bool) : Prop :=
 bcase x25 (elI .i64 (AH.cell? Hs2 (qlm ⟨o7, 0, none⟩ 0)) fun n28 => elI .u64 (AH.cell? Hs2 (qlm ⟨o7, 0, none⟩ 1)) fun n30 => (0 ≤ n28 ∧ n28 < ((s9.n : Nat) : Int)) ∧ onPtr s9.a fun a31 => stC Hs2 (qlm a31 (qlr n28 * 1)) [(qlk .u64 n30)] fun Hs4 => it3 (qll .i64 (t3 + (1 : Int))) Hs4) (it3 (qll .i64 (t3 + (1 : Int))) Hs2)
def qbi.l2 (x1 : Sl) (k : Sl → AH → Prop) (s9 : Sl) (t3 : Int) (HL3 : AH) (it3 : (Int) → AH → Prop) : Prop :=
 bcase (decide ((t3 : Int) < ((x1.n : Nat) : Int))) ((0 ≤ t3 ∧ t3 < ((x1.n : Nat) : Int)) ∧ onPtr x1.a fun a14 => ldA HL3 (qlm a14 (qlr t3 * 2)) 2 fun c15 => newC HL3 ⟨[(qlk .i64 (0 : Int)), (qlk .u64 (0 : Int))], .rw, 0⟩ fun o7 H7 => (qly c15 = 2 ∧ ql0 c15 qq = true) ∧ stC H7 ⟨o7, 0, none⟩ c15 fun Hs2 => elI .i64 (AH.cell? Hs2 (qlm ⟨o7, 0, none⟩ 0)) fun n17 => bcase (decide ((n17 : Int) ≥ (0 : Int))) (elI .i64 (AH.cell? Hs2 (qlm ⟨o7, 0, none⟩ 0)) fun n21 => qbi.j1 s9 t3 it3 o7 Hs2 (decide ((n21 : Int) < ((s9.n : Nat) : Int)))) (qbi.j1 s9 t3 it3 o7 Hs2 false)) (k s9 HL3)
def qbi.b (x0 : Sl) (x1 : Sl) (H : AH) (k : Sl → AH → Prop) : Prop :=
 qaC x0 H fun s9 H9 => loopT (qbi.l2 x1 k s9) (((0 : Int)) : Int) H9
def qbi.ann : Ann := { keep := fun r => match r with | 3 => [(12, .int .i64)] | _ => [], ord := fun r => match r with  | _ => [] }
theorem qbi.link {x0 : Sl} {x1 : Sl} {H : AH} {k : Sl → AH → Prop} (h : qbi.b x0 x1 H k) : qbi x0 x1 H k := lk1 pan hT hm Tryz.func137 (by kernel_rfl) (A := qbi.ann) (by kernel_rfl) (by simp) (by kernel_rfl) h
def qba.j1 (k : Sl → AH → Prop) (t3 : Sl × Int) (HL3 : AH) : Prop :=
 qcL t3.1 HL3 fun H23 => qco t3.1 H23 fun s25 H25 => k s25 H25
def qba.l2 (x0 : Sl) (k : Sl → AH → Prop) (t3 : Sl × Int) (HL3 : AH) (it3 : (Sl × Int) → AH → Prop) : Prop :=
 bcase (decide ((t3.2 : Int) < ((x0.n : Nat) : Int))) ((0 ≤ t3.2 ∧ t3.2 < ((x0.n : Nat) : Int)) ∧ onPtr x0.a fun a10 => ldA HL3 (qlm a10 (qlr t3.2 * 2)) 2 fun c11 => newC HL3 ⟨[(qlk .i64 (0 : Int)), (qlk .u64 (0 : Int))], .rw, 0⟩ fun o5 H5 => (qly c11 = 2 ∧ ql0 c11 qq = true) ∧ stC H5 ⟨o5, 0, none⟩ c11 fun Hs2 => elI .i64 (AH.cell? Hs2 (qlm ⟨o5, 0, none⟩ 0)) fun n13 => bcase (decide ((n13 : Int) ≥ (0 : Int))) (elI .i64 (AH.cell? Hs2 (qlm ⟨o5, 0, none⟩ 0)) fun n17 => ((8 : Int) : Int) ≠ 0 ∧ newC Hs2 ⟨[(qlk .i64 (qll .i64 (qmo n17 (8 : Int))))], .rw, 1⟩ fun o19 H19 => appendC 1 H19 t3.1 ⟨(some ⟨o19, 0, none⟩), 1, 1⟩ fun s20 H20 => it3 (s20, (qll .i64 (t3.2 + (1 : Int)))) H20) (it3 (t3.1, (qll .i64 (t3.2 + (1 : Int)))) Hs2)) (qba.j1 k t3 HL3)
def qba.b (x0 : Sl) (H : AH) (k : Sl → AH → Prop) : Prop :=
 loopT (qba.l2 x0 k) ((⟨none, 0, 0⟩, (0 : Int)) : Sl × Int) H
def qba.ann : Ann := { keep := fun r => match r with | 3 => [(3, .sl), (8, .int .i64)] | _ => [], ord := fun r => match r with  | _ => [] }
theorem qba.link {x0 : Sl} {H : AH} {k : Sl → AH → Prop} (h : qba.b x0 H k) : qba x0 H k := lk1 pan hT hm Tryz.func138 (by kernel_rfl) (A := qba.ann) (by kernel_rfl) (by simp) (by kernel_rfl) h
def qai.j1 (x0 : Option Addr) (x1 : Sl) (k : Int → AH → Prop) (HL15 : AH) : Prop :=
 onPtr x0 fun a80 => elP (AH.cell? HL15 (qlm a80 0)) fun p82 => qN p82 (1 : Int) (qll .u64 ((x1.n : Nat) : Int)) HL15 fun n86 H86 => bcase ((n86 : Int) != (0 : Int)) (k n86 H86) (qaR x0 x1 H86 fun n92 H92 => k n92 H92)
def qai.l2 (x0 : Option Addr) (x1 : Sl) (k : Int → AH → Prop) (t9 : Sl × Int) (t15 : Int × Int) (HL15 : AH) (it15 : (Int × Int) → AH → Prop) : Prop :=
 bcase (decide ((t15.2 : Int) < ((t9.1.n : Nat) : Int))) ((0 ≤ t15.2 ∧ t15.2 < ((t9.1.n : Nat) : Int)) ∧ onPtr t9.1.a fun a66 => ldA HL15 (qlm a66 (qlr t15.2 * 8)) 8 fun c67 => newC HL15 ⟨[(qlk .u64 (0 : Int)), (qlk .u64 (0 : Int)), (qlk .u64 (0 : Int)), (qlk .u64 (0 : Int)), (qlk .u64 (0 : Int)), (qlk .u64 (0 : Int)), (qlk .u64 (0 : Int)), (qlk .u64 (0 : Int))], .rw, 0⟩ fun o9 H9 => (qly c67 = 8 ∧ ql0 c67 qq = true) ∧ stC H9 ⟨o9, 0, none⟩ c67 fun Hs6 => onPtr x0 fun a69 => elP (AH.cell? Hs6 (qlm a69 1)) fun p71 => ldA Hs6 ⟨o9, 0, none⟩ 8 fun c73 => qa1 p71 t15.2 c73 Hs6 fun n74 H74 => bcase ((n74 : Int) != (0 : Int)) (k n74 H74) (it15 (t15.1, (qll .i64 (t15.2 + (1 : Int)))) H74)) (qai.j1 x0 x1 k HL15)
def qai.l3 (x0 : Option Addr) (x1 : Sl) (k : Int → AH → Prop) (t9 : Sl × Int) (HL9 : AH) (it9 : (Sl × Int) → AH → Prop) : Prop :=
 bcase (decide ((t9.2 : Int) < ((x1.n : Nat) : Int))) ((0 ≤ t9.2 ∧ t9.2 < ((x1.n : Nat) : Int)) ∧ onPtr x1.a fun a43 => ldA HL9 (qlm a43 (qlr t9.2 * 9)) 9 fun c44 => newC HL9 ⟨[(qlk .i64 (0 : Int)), (qlk .u64 (0 : Int)), (qlk .u64 (0 : Int)), (qlk .u64 (0 : Int)), (qlk .u64 (0 : Int)), (qlk .u64 (0 : Int)), (qlk .u64 (0 : Int)), (qlk .u64 (0 : Int)), (qlk .u64 (0 : Int))], .rw, 0⟩ fun o7 H7 => (qly c44 = 9 ∧ ql0 c44 qq = true) ∧ stC H7 ⟨o7, 0, none⟩ c44 fun Hs2 => ((8 : Int) : Int) ≠ 0 ∧ ((8 : Int) : Int) ≠ 0 ∧ elI .i64 (AH.cell? Hs2 (qlm ⟨o7, 0, none⟩ 0)) fun n51 => (0 ≤ (qll .i64 (qmo t9.2 (8 : Int))) ∧ (qll .i64 (qmo t9.2 (8 : Int))) < ((t9.1.n : Nat) : Int)) ∧ onPtr t9.1.a fun a53 => (0 ≤ (qmg t9.2 (8 : Int)) ∧ (qmg t9.2 (8 : Int)) < ((8 : Nat) : Int)) ∧ stC Hs2 (qlm (qlm a53 (qlr (qll .i64 (qmo t9.2 (8 : Int))) * 8)) (qlr (qmg t9.2 (8 : Int)) * 1)) [(qlk .u64 (qll .u64 n51))] fun Hs4 => ldA Hs4 (qlm ⟨o7, 0, none⟩ 1) 8 fun c57 => (qly c57 = 8) ∧ newC Hs4 ⟨(setMany [(qlk .u64 (0 : Int)), (qlk .u64 (0 : Int)), (qlk .u64 (0 : Int)), (qlk .u64 (0 : Int)), (qlk .u64 (0 : Int)), (qlk .u64 (0 : Int)), (qlk .u64 (0 : Int)), (qlk .u64 (0 : Int))] 0 c57), .rw, 8⟩ fun o58 H58 => appendC 8 H58 t9.1 ⟨(some ⟨o58, 0, none⟩), 1, 1⟩ fun s59 H59 => it9 (s59, (qll .i64 (t9.2 + (1 : Int)))) H59) (loopT (qai.l2 x0 x1 k t9) (((0 : Int), (0 : Int)) : Int × Int) HL9)
def qai.j4 (x0 : Option Addr) (x1 : Sl) (k : Int → AH → Prop) (x12 : Bool) (Hj : AH) : Prop :=
 bcase x12 (k (1 : Int) Hj) (onPtr x0 fun a27 => elP (AH.cell? Hj (qlm a27 0)) fun p29 => qaI p29 Hj fun b30 H30 => bcase b30 (k (2 : Int) H30) (qb6 x0 H30 fun b33 H33 => bcase b33 (k (5 : Int) H33) (qcz ((x1.n : Nat) : Int) H33 fun n36 H36 => (0 ≤ n36 ∧ n36 ≤ (16 : Int) ∧ (16 : Int) ≤ (lim : Int)) ∧ newC H36 ⟨zerosOf (qlr n36) [(qlk .u64 (0 : Int)), (qlk .u64 (0 : Int)), (qlk .u64 (0 : Int)), (qlk .u64 (0 : Int)), (qlk .u64 (0 : Int)), (qlk .u64 (0 : Int)), (qlk .u64 (0 : Int)), (qlk .u64 (0 : Int))], .rw, 8⟩ fun o37 H37 => loopT (qai.l3 x0 x1 k) ((⟨(some ⟨o37, 0, none⟩), (qlr n36), 1⟩, (0 : Int)) : Sl × Int) H37)))
def qai.b (x0 : Option Addr) (x1 : Sl) (H : AH) (k : Int → AH → Prop) : Prop :=
 bcase (ql1 x0) (qai.j4 x0 x1 k true H) (onPtr x0 fun a17 => elP (AH.cell? H (qlm a17 1)) fun p19 => qbb p19 H fun n20 H20 => log_May n20 x1 H20 fun b22 H22 => qai.j4 x0 x1 k (!b22) H22)
def qai.ann : Ann := { keep := fun r => match r with | 9 => [(5, .sl), (40, .int .i64)] | 15 => [(4, .int .i64), (63, .int .i64)] | _ => [], ord := fun r => match r with | 11 => [0, 1, 2, 3, 4, 5, 6, 7, 8, 9, 10] | 17 => [0, 1, 2, 3, 4, 5, 6, 7] | _ => [] }
theorem qai.link {x0 : Option Addr} {x1 : Sl} {H : AH} {k : Int → AH → Prop} (h : qai.b x0 x1 H k) : qai x0 x1 H k := lk1 pan hT hm Tryz.func139 (by kernel_rfl) (A := qai.ann) (by kernel_rfl) (by simp) (by kernel_rfl) h
def qb3.b (x0 : Option Addr) (x1 : Int) (H : AH) (k : Bool → AH → Prop) : Prop :=
 bcase (!(ql1 x0)) (bcase (decide ((x1 : Int) ≥ (0 : Int))) (onPtr x0 fun a14 => elL (AH.cell? H (qlm a14 1)) fun s16 => k (decide ((x1 : Int) < ((s16.n : Nat) : Int))) H) (k false H)) (k false H)
theorem qb3.link {x0 : Option Addr} {x1 : Int} {H : AH} {k : Bool → AH → Prop} (h : qb3.b x0 x1 H k) : qb3 x0 x1 H k := lk1 pan hT hm Tryz.func168 (by kernel_rfl) (A := ann0) (by kernel_rfl) (by simp) (by kernel_rfl) h
def qbN.b (x0 : Option Addr) (x1 : Int) (H : AH) (k : Int → AH → Prop) : Prop :=
 qb3 x0 x1 H fun b7 H7 => bcase (!b7) (k (0 : Int) H7) (onPtr x0 fun a10 => elL (AH.cell? H7 (qlm a10 1)) fun s12 => (0 ≤ x1 ∧ x1 < ((s12.n : Nat) : Int)) ∧ onPtr s12.a fun a14 => elI .i64 (AH.cell? H7 (qlm a14 (qlr x1 * 1))) fun n15 => onPtr x0 fun a17 => elL (AH.cell? H7 (qlm a17 2)) fun s19 => (0 ≤ x1 ∧ x1 < ((s19.n : Nat) : Int)) ∧ onPtr s19.a fun a21 => elI .i64 (AH.cell? H7 (qlm a21 (qlr x1 * 1))) fun n22 => k (qll .i64 (n15 - n22)) H7)
def qbN.ann : Ann := { keep := fun r => match r with  | _ => [], ord := fun r => match r with | 3 => [0, 1, 2, 3, 4, 5, 6, 7, 8, 9, 10, 11, 12, 13, 14, 15] | _ => [] }
theorem qbN.link {x0 : Option Addr} {x1 : Int} {H : AH} {k : Int → AH → Prop} (h : qbN.b x0 x1 H k) : qbN x0 x1 H k := lk1 pan hT hm Tryz.func169 (by kernel_rfl) (A := qbN.ann) (by kernel_rfl) (by simp) (by kernel_rfl) h
def qaM.j1 (x0 : Option Addr) (x1 : Int) (k : Int → Bool → AH → Prop) (n26 : Int) (n22 : Int) (Hj : AH) : Prop :=
 onPtr x0 fun a43 => elL (AH.cell? Hj (qlm a43 1)) fun s45 => (0 ≤ x1 ∧ x1 < ((s45.n : Nat) : Int)) ∧ onPtr s45.a fun a47 => elI .i64 (AH.cell? Hj (qlm a47 (qlr x1 * 1))) fun n48 => k n48 (decide ((n22 : Int) ≥ n26)) Hj
def qaM.b (x0 : Option Addr) (x1 : Int) (H : AH) (k : Int → Bool → AH → Prop) : Prop :=
 qb3 x0 x1 H fun b9 H9 => bcase (!b9) (k (0 : Int) false H9) (onPtr x0 fun a12 => elL (AH.cell? H9 (qlm a12 1)) fun s14 => (0 ≤ x1 ∧ x1 < ((s14.n : Nat) : Int)) ∧ onPtr s14.a fun a16 => elI .i64 (AH.cell? H9 (qlm a16 (qlr x1 * 1))) fun n17 => (0 ≤ x1 ∧ x1 < ((s14.n : Nat) : Int)) ∧ onPtr s14.a fun a19 => stC H9 (qlm a19 (qlr x1 * 1)) [(qlk .i64 (qll .i64 (n17 + (1 : Int))))] fun Hs2 => onPtr x0 fun a24 => elI .i64 (AH.cell? Hs2 (qlm a24 0)) fun n26 => qbN x0 x1 Hs2 fun n22 H22 => AH.cell? H22 (qlm a24 0) = some (qlk .i64 n26) ∧ bcase (decide ((n22 : Int) ≥ n26)) (onPtr x0 fun a30 => elL (AH.cell? H22 (qlm a30 2)) fun s32 => onPtr x0 fun a35 => elL (AH.cell? H22 (qlm a35 1)) fun s37 => (0 ≤ x1 ∧ x1 < ((s37.n : Nat) : Int)) ∧ onPtr s37.a fun a39 => elI .i64 (AH.cell? H22 (qlm a39 (qlr x1 * 1))) fun n40 => (0 ≤ x1 ∧ x1 < ((s32.n : Nat) : Int)) ∧ onPtr s32.a fun a41 => stC H22 (qlm a41 (qlr x1 * 1)) [(qlk .i64 n40)] fun Hs4 => qaM.j1 x0 x1 k n26 n22 Hs4) (qaM.j1 x0 x1 k n26 n22 H22))
def qaM.ann : Ann := { keep := fun r => match r with  | _ => [], ord := fun r => match r with | 4 => [0, 1, 3, 4, 5, 6, 2, 7, 8] | 6 => [0, 1, 2, 3, 4, 5, 6, 7, 8, 9, 10, 11, 12, 13] | _ => [] }
theorem qaM.link {x0 : Option Addr} {x1 : Int} {H : AH} {k : Int → Bool → AH → Prop} (h : qaM.b x0 x1 H k) : qaM x0 x1 H k := lk2 pan hT hm Tryz.func140 (by kernel_rfl) (A := qaM.ann) (by kernel_rfl) (by simp) (by simp) (by kernel_rfl) h
def qL.l1 (x0 : Option Addr) (k : AH → Prop) (pk : Value → AH → Prop) (s59 : Sl) (t11 : Int) (HL11 : AH) (it11 : (Int) → AH → Prop) : Prop :=
 bcase (decide ((t11 : Int) < ((s59.n : Nat) : Int))) ((0 ≤ t11 ∧ t11 < ((s59.n : Nat) : Int)) ∧ onPtr s59.a fun a63 => elI .i64 (AH.cell? HL11 (qlm a63 (qlr t11 * 1))) fun n64 => qcw n64 HL11 fun n66 H66 => onPtr x0 fun a69 => elP (AH.cell? H66 (qlm a69 7)) fun p71 => qaM p71 n66 H66 fun n73a b73b H73 => bcase b73b (onPtr x0 fun a78 => elP (AH.cell? H73 (qlm a78 0)) fun p80 => qN p80 (qll .i64 ((19 : Int) + n66)) (qll .u64 n73a) H73 fun n85 H85 => qaK n85 H85 (fun pv86 Hp86 => pk pv86 Hp86) fun H86 => it11 (qll .i64 (t11 + (1 : Int))) H86) (it11 (qll .i64 (t11 + (1 : Int))) H73)) (k HL11)
def qL.j2 (x0 : Option Addr) (x2 : Sl) (k : AH → Prop) (pk : Value → AH → Prop) (n44 : Int) (Hj : AH) : Prop :=
 qaK n44 Hj (fun pv57 Hp57 => pk pv57 Hp57) fun H57 => qba x2 H57 fun s59 H59 => loopT (qL.l1 x0 k pk s59) (((0 : Int)) : Int) H59
def qL.j3 (x0 : Option Addr) (x2 : Sl) (k : AH → Prop) (pk : Value → AH → Prop) (t3 : Sl × Int) (HL3 : AH) : Prop :=
 onPtr x0 fun a40 => elP (AH.cell? HL3 (qlm a40 6)) fun p42 => qai p42 t3.1 HL3 fun n44 H44 => onPtr x0 fun a47 => elB (AH.cell? H44 (qlm a47 8)) fun b49 => bcase b49 (onPtr x0 fun a54 => stC H44 (qlm a54 8) [(qlW true)] fun Hs2 => qL.j2 x0 x2 k pk n44 Hs2) (onPtr x0 fun a54 => stC H44 (qlm a54 8) [(qlW ((n44 : Int) == (3 : Int)))] fun Hs4 => qL.j2 x0 x2 k pk n44 Hs4)
def qL.l4 (x0 : Option Addr) (x2 : Sl) (k : AH → Prop) (pk : Value → AH → Prop) (s17 : Sl) (s19 : Sl) (t3 : Sl × Int) (HL3 : AH) (it3 : (Sl × Int) → AH → Prop) : Prop :=
 bcase (decide ((t3.2 : Int) < ((s19.n : Nat) : Int))) ((0 ≤ t3.2 ∧ t3.2 < ((s19.n : Nat) : Int)) ∧ onPtr s19.a fun a23 => elI .i64 (AH.cell? HL3 (qlm a23 (qlr t3.2 * 1))) fun n24 => onPtr x0 fun a27 => ldA HL3 (qlm a27 1) 4 fun c29 => qbQ c29 n24 HL3 fun n31 H31 => qbD s17 n24 H31 fun c34 H34 => (qly c34 = 8) ∧ (qly (setMany [(qlk .i64 n31), (qlk .u64 (0 : Int)), (qlk .u64 (0 : Int)), (qlk .u64 (0 : Int)), (qlk .u64 (0 : Int)), (qlk .u64 (0 : Int)), (qlk .u64 (0 : Int)), (qlk .u64 (0 : Int)), (qlk .u64 (0 : Int))] 1 c34) = 9) ∧ newC H34 ⟨(setMany [(qlk .i64 (0 : Int)), (qlk .u64 (0 : Int)), (qlk .u64 (0 : Int)), (qlk .u64 (0 : Int)), (qlk .u64 (0 : Int)), (qlk .u64 (0 : Int)), (qlk .u64 (0 : Int)), (qlk .u64 (0 : Int)), (qlk .u64 (0 : Int))] 0 (setMany [(qlk .i64 n31), (qlk .u64 (0 : Int)), (qlk .u64 (0 : Int)), (qlk .u64 (0 : Int)), (qlk .u64 (0 : Int)), (qlk .u64 (0 : Int)), (qlk .u64 (0 : Int)), (qlk .u64 (0 : Int)), (qlk .u64 (0 : Int))] 1 c34)), .rw, 9⟩ fun o36 H36 => appendC 9 H36 t3.1 ⟨(some ⟨o36, 0, none⟩), 1, 1⟩ fun s37 H37 => it3 (s37, (qll .i64 (t3.2 + (1 : Int)))) H37) (qL.j3 x0 x2 k pk t3 HL3)
def qL.b (x0 : Option Addr) (x1 : Sl) (x2 : Sl) (H : AH) (pk : Value → AH → Prop) (k : AH → Prop) : Prop :=
 qbi x1 x2 H fun s17 H17 => qba x2 H17 fun s19 H19 => loopT (qL.l4 x0 x2 k pk s17 s19) ((⟨none, 0, 0⟩, (0 : Int)) : Sl × Int) H19
def qL.ann : Ann := { keep := fun r => match r with | 3 => [(6, .sl), (21, .int .i64)] | 11 => [(61, .int .i64)] | _ => [], ord := fun r => match r with  | _ => [] }
theorem qL.link {x0 : Option Addr} {x1 : Sl} {x2 : Sl} {H : AH} {pk : Value → AH → Prop} {k : AH → Prop} (h : qL.b x0 x1 x2 H pk k) : qL x0 x1 x2 H pk k := lk0 pan hT hm Tryz.func101 (by kernel_rfl) (A := qL.ann) (by kernel_rfl) (by kernel_rfl) h
def qcj.b (x0 : Option Addr) (x1 : Int) (H : AH) (pk : Value → AH → Prop) (k : Int → AH → Prop) : Prop :=
 qbn x0 H (fun pv10 Hp10 => pk pv10 Hp10) fun s10 H10 => qcf x1 H10 fun n12 H12 => bcase ((n12 : Int) == (0 : Int)) (pk (Value.iface 37 (qlk .i64 (1 : Int))) H12) (qaT x0 H12 (fun pv16 Hp16 => pk pv16 Hp16) fun H16 => onPtr x0 fun a21 => elP (AH.cell? H16 (qlm a21 7)) fun p23 => qb8 p23 H16 fun s24 H24 => qcc s10 x1 s24 H24 fun s25a n25b n25c H25 => qaK n25c H25 (fun pv30 Hp30 => pk pv30 Hp30) fun H30 => qL x0 s10 s25a H30 (fun pv34 Hp34 => pk pv34 Hp34) fun H34 => k n25b H34)
theorem qcj.link {x0 : Option Addr} {x1 : Int} {H : AH} {pk : Value → AH → Prop} {k : Int → AH → Prop} (h : qcj.b x0 x1 H pk k) : qcj x0 x1 H pk k := lk1 pan hT hm Tryz.func49 (by kernel_rfl) (A := ann0) (by kernel_rfl) (by simp) (by kernel_rfl) h
def qaQ.j1 (k : Int → AH → Prop) (t3 : Int × Int × Int) (it3 : (Int × Int × Int) → AH → Prop) (o5 : Nat) (H14 : AH) (x19 : Bool) : Prop :=
 bcase x19 (k (0 : Int) H14) (elI .i64 (AH.cell? H14 (qlm ⟨o5, 0, none⟩ 1)) fun n22 => it3 (t3.1, (qll .i64 (t3.2.1 + n22)), (qll .i64 (t3.2.2 + (1 : Int)))) H14)
def qaQ.l2 (x0 : Sl) (k : Int → AH → Prop) (t3 : Int × Int × Int) (HL3 : AH) (it3 : (Int × Int × Int) → AH → Prop) : Prop :=
 bcase (decide ((t3.2.2 : Int) < ((x0.n : Nat) : Int))) ((0 ≤ t3.2.2 ∧ t3.2.2 < ((x0.n : Nat) : Int)) ∧ onPtr x0.a fun a10 => ldA HL3 (qlm a10 (qlr t3.2.2 * 3)) 3 fun c11 => newC HL3 ⟨[(qlk .i64 (0 : Int)), (qlk .i64 (0 : Int)), (qlW false)], .rw, 0⟩ fun o5 H5 => (qly c11 = 3 ∧ ql0 c11 qq = true) ∧ stC H5 ⟨o5, 0, none⟩ c11 fun Hs2 => elI .i64 (AH.cell? Hs2 (qlm ⟨o5, 0, none⟩ 1)) fun n13 => qbF n13 Hs2 fun b14 H14 => bcase (!b14) (qaQ.j1 k t3 it3 o5 H14 true) (qaQ.j1 k t3 it3 o5 H14 (decide ((t3.2.1 : Int) > (512 : Int))))) (k t3.2.1 HL3)
def qaQ.b (x0 : Sl) (H : AH) (k : Int → AH → Prop) : Prop :=
 loopT (qaQ.l2 x0 k) (((0 : Int), (0 : Int), (0 : Int)) : Int × Int × Int) H
def qaQ.ann : Ann := { keep := fun r => match r with | 3 => [(2, .int .i64), (3, .int .i64), (8, .int .i64)] | _ => [], ord := fun r => match r with  | _ => [] }
theorem qaQ.link {x0 : Sl} {H : AH} {k : Int → AH → Prop} (h : qaQ.b x0 H k) : qaQ x0 H k := lk1 pan hT hm Tryz.func171 (by kernel_rfl) (A := qaQ.ann) (by kernel_rfl) (by simp) (by kernel_rfl) h
def qJ.j1 (x1 : Int) (k : Int → Int → Bool → AH → Prop) (H10 : AH) (x4 : Int) (x57 : Bool) : Prop :=
 bcase x57 (k x4 (qll .i64 ((qll .i64 (x1 + (1 : Int))) + (1 : Int))) true H10) (k x4 (qll .i64 (x1 + (1 : Int))) true H10)
def qJ.j2 (x0 : Sl) (x1 : Int) (k : Int → Int → Bool → AH → Prop) (H10 : AH) (x4 : Int) : Prop :=
 bcase (decide (((qll .i64 (x1 + (1 : Int))) : Int) < ((x0.n : Nat) : Int))) ((0 ≤ (qll .i64 (x1 + (1 : Int))) ∧ (qll .i64 (x1 + (1 : Int))) < ((x0.n : Nat) : Int)) ∧ onPtr x0.a fun a53 => elB (AH.cell? H10 (qlm (qlm a53 (qlr (qll .i64 (x1 + (1 : Int))) * 3)) 2)) fun b55 => qJ.j1 x1 k H10 x4 (!b55)) (qJ.j1 x1 k H10 x4 false)
def qJ.j3 (x0 : Sl) (x1 : Int) (k : Int → Int → Bool → AH → Prop) (H10 : AH) (x43 : Bool) : Prop :=
 bcase x43 (qJ.j2 x0 x1 k H10 (qll .i64 (x1 - (1 : Int)))) (qJ.j2 x0 x1 k H10 x1)
def qJ.j4 (x0 : Sl) (x1 : Int) (k : Int → Int → Bool → AH → Prop) (H10 : AH) (x29 : Bool) : Prop :=
 bcase x29 (k (0 : Int) (0 : Int) false H10) (bcase (decide ((x1 : Int) > (0 : Int))) ((0 ≤ (qll .i64 (x1 - (1 : Int))) ∧ (qll .i64 (x1 - (1 : Int))) < ((x0.n : Nat) : Int)) ∧ onPtr x0.a fun a39 => elB (AH.cell? H10 (qlm (qlm a39 (qlr (qll .i64 (x1 - (1 : Int))) * 3)) 2)) fun b41 => qJ.j3 x0 x1 k H10 (!b41)) (qJ.j3 x0 x1 k H10 false))
def qJ.b (x0 : Sl) (x1 : Int) (H : AH) (k : Int → Int → Bool → AH → Prop) : Prop :=
 qaQ x0 H fun n9 H9 => qax x0 n9 H9 fun b10 H10 => bcase (!b10) (qJ.j4 x0 x1 k H10 true) (bcase (decide ((x1 : Int) < (0 : Int))) (qJ.j4 x0 x1 k H10 true) (bcase (decide ((x1 : Int) ≥ ((x0.n : Nat) : Int))) (qJ.j4 x0 x1 k H10 true) ((0 ≤ x1 ∧ x1 < ((x0.n : Nat) : Int)) ∧ onPtr x0.a fun a25 => elB (AH.cell? H10 (qlm (qlm a25 (qlr x1 * 3)) 2)) fun b27 => qJ.j4 x0 x1 k H10 (!b27))))
theorem qJ.link {x0 : Sl} {x1 : Int} {H : AH} {k : Int → Int → Bool → AH → Prop} (h : qJ.b x0 x1 H k) : qJ x0 x1 H k := lk3 pan hT hm Tryz.func170 (by kernel_rfl) (A := ann0) (by kernel_rfl) (by simp) (by simp) (by simp) (by kernel_rfl) h
def qbz.b (x0 : Sl) (x1 : Int) (H : AH) (k : List Value → Bool → AH → Prop) : Prop :=
 newC H ⟨[(qlk .i64 (0 : Int)), (qlk .u64 (0 : Int))], .rw, 0⟩ fun o4 H4 => qJ x0 x1 H4 fun n12a n12b b12c H12 => bcase (!b12c) ((qly [(qlk .i64 (0 : Int)), (qlk .u64 (0 : Int))] = 2 ∧ ql0 [(qlk .i64 (0 : Int)), (qlk .u64 (0 : Int))] qq = true) ∧ stC H12 ⟨o4, 0, none⟩ [(qlk .i64 (0 : Int)), (qlk .u64 (0 : Int))] fun Hs2 => ldA Hs2 ⟨o4, 0, none⟩ 2 fun r0 => k r0 false Hs2) ((0 ≤ n12a ∧ n12a < ((x0.n : Nat) : Int)) ∧ onPtr x0.a fun a21 => elI .i64 (AH.cell? H12 (qlm (qlm a21 (qlr n12a * 3)) 0)) fun n23 => (0 ≤ n12a ∧ n12a ≤ n12b ∧ n12b ≤ ((x0.n : Nat) : Int)) ∧ qaQ ⟨(Option.map (fun x => qlm x (qlr n12a * 3)) x0.a), (qlr n12b - qlr n12a), 0⟩ H12 fun n28 H28 => AH.cell? H28 (qlm (qlm a21 (qlr n12a * 3)) 0) = some (qlk .i64 n23) ∧ qb4 n28 false H28 fun n29 H29 => AH.cell? H29 (qlm (qlm a21 (qlr n12a * 3)) 0) = some (qlk .i64 n23) ∧ (qly [(qlk .i64 n23), (qlk .u64 n29)] = 2 ∧ ql0 [(qlk .i64 n23), (qlk .u64 n29)] qq = true) ∧ stC H29 ⟨o4, 0, none⟩ [(qlk .i64 n23), (qlk .u64 n29)] fun Hs4 => ldA Hs4 ⟨o4, 0, none⟩ 2 fun r0 => k r0 true Hs4)
def qbz.ann : Ann := { keep := fun r => match r with  | _ => [], ord := fun r => match r with | 4 => [0, 1, 2, 3, 4, 5, 6, 7, 8, 9, 10, 11, 12, 13] | _ => [] }
theorem qbz.link {x0 : Sl} {x1 : Int} {H : AH} {k : List Value → Bool → AH → Prop} (h : qbz.b x0 x1 H k) : qbz x0 x1 H k := lk2 pan hT hm Tryz.func141 (by kernel_rfl) (A := qbz.ann) (by kernel_rfl) (by simp) (by simp) (by kernel_rfl) h
def qcE.b (x0 : Sl) (x1 : Int) (H : AH) (k : Sl → Int → AH → Prop) : Prop :=
 qcm x0 x1 H fun s13a n13b H13 => bcase ((((s13a.n : Nat) : Int) : Int) == (0 : Int)) (k ⟨none, 0, 0⟩ (6 : Int) H13) (qbz s13a n13b H13 fun c22a b22b H22 => newC H22 ⟨[(qlk .i64 (0 : Int)), (qlk .u64 (0 : Int))], .rw, 0⟩ fun o8 H8 => (qly c22a = 2 ∧ ql0 c22a qq = true) ∧ stC H8 ⟨o8, 0, none⟩ c22a fun Hs2 => bcase (!b22b) (k ⟨none, 0, 0⟩ (1 : Int) Hs2) (ldA Hs2 ⟨o8, 0, none⟩ 2 fun c27 => (qly c27 = 2) ∧ newC Hs2 ⟨(setMany [(qlk .i64 (0 : Int)), (qlk .u64 (0 : Int))] 0 c27), .rw, 2⟩ fun o28 H28 => k ⟨(some ⟨o28, 0, none⟩), 1, 1⟩ (0 : Int) H28))
theorem qcE.link {x0 : Sl} {x1 : Int} {H : AH} {k : Sl → Int → AH → Prop} (h : qcE.b x0 x1 H k) : qcE x0 x1 H k := lk2 pan hT hm Tryz.func102 (by kernel_rfl) (A := ann0) (by kernel_rfl) (by simp) (by simp) (by kernel_rfl) h
def qbW.b (x0 : Option Addr) (H : AH) (pk : Value → AH → Prop) (k : Int → AH → Prop) : Prop :=
 onPtr x0 fun a7 => elP (AH.cell? H (qlm a7 0)) fun p9 => qS p9 (2 : Int) H fun n10a n10b H10 => qaK n10b H10 (fun pv14 Hp14 => pk pv14 Hp14) fun H14 => k (qll .i64 n10a) H14
theorem qbW.link {x0 : Option Addr} {H : AH} {pk : Value → AH → Prop} {k : Int → AH → Prop} (h : qbW.b x0 H pk k) : qbW x0 H pk k := lk1 pan hT hm Tryz.func54 (by kernel_rfl) (A := ann0) (by kernel_rfl) (by simp) (by kernel_rfl) h
def qcq.b (x0 : Option Addr) (x1 : Int) (H : AH) (pk : Value → AH → Prop) (k : AH → Prop) : Prop :=
 qbn x0 H (fun pv8 Hp8 => pk pv8 Hp8) fun s8 H8 => qcE s8 x1 H8 fun s12a n12b H12 => qaK n12b H12 (fun pv16 Hp16 => pk pv16 Hp16) fun H16 => qbW x0 H16 (fun pv18 Hp18 => pk pv18 Hp18) fun n18 H18 => bcase ((n18 : Int) == x1) (pk (Value.iface 37 (qlk .i64 (5 : Int))) H18) (qaT x0 H18 (fun pv23 Hp23 => pk pv23 Hp23) fun H23 => qL x0 s8 s12a H23 (fun pv27 Hp27 => pk pv27 Hp27) fun H27 => k H27)
theorem qcq.link {x0 : Option Addr} {x1 : Int} {H : AH} {pk : Value → AH → Prop} {k : AH → Prop} (h : qcq.b x0 x1 H pk k) : qcq x0 x1 H pk k := lk0 pan hT hm Tryz.func50 (by kernel_rfl) (A := ann0) (by kernel_rfl) (by kernel_rfl) h
def qbH.b (x0 : List Value) (x1 : Option Addr) (x2 : Option Addr) (H : AH) (k : Bool → AH → Prop) : Prop :=
 newC H ⟨x0, .rw, 0⟩ fun o3 H3 => elB (AH.cell? H3 (qlm ⟨o3, 0, none⟩ 2)) fun b6 => bcase b6 (onPtr x1 fun a8 => elI .i64 (AH.cell? H3 a8) fun n8 => ldA H3 ⟨o3, 0, none⟩ 3 fun c9 => qbE c9 H3 fun n10 H10 => AH.cell? H10 a8 = some (qlk .i64 n8) ∧ bcase (decide ((n8 : Int) ≥ n10)) (onPtr x1 fun a14 => elI .i64 (AH.cell? H10 a14) fun n14 => elI .i64 (AH.cell? H10 (qlm ⟨o3, 0, none⟩ 0)) fun n16 => elI .i64 (AH.cell? H10 (qlm ⟨o3, 0, none⟩ 1)) fun n18 => onPtr x2 fun a21 => elI .i64 (AH.cell? H10 a21) fun n21 => k (decide ((n14 : Int) ≤ (qll .i64 ((qll .i64 ((qll .i64 (n16 + n18)) * (8 : Int))) - n21)))) H10) (k false H10)) (k false H3)
def qbH.ann : Ann := { keep := fun r => match r with  | _ => [], ord := fun r => match r with | 1 => [0, 1, 2, 3, 4, 5, 6, 7, 8, 9, 10, 11, 12, 13, 14, 15, 16, 17, 18, 19, 20] | _ => [] }
theorem qbH.link {x0 : List Value} {x1 : Option Addr} {x2 : Option Addr} {H : AH} {k : Bool → AH → Prop} (h : qbH.b x0 x1 x2 H k) : qbH x0 x1 x2 H k := lk1 pan hT hm Tryz.func183 (by kernel_rfl) (A := qbH.ann) (by kernel_rfl) (by simp) (by kernel_rfl) h
def qbO.j1 (x0 : Sl) (k : Bool → AH → Prop) (o4 : Nat) (o5 : Nat) (H5 : AH) (x14 : Bool) : Prop :=
 bcase x14 (k false H5) (qab x0 H5 fun s17a b17b H17 => qX s17a (some ⟨o4, 0, none⟩) (some ⟨o5, 0, none⟩) H17 fun b22 H22 => k b22 H22)
def qbO.b (x0 : Sl) (x1 : Int) (x2 : Int) (H : AH) (k : Bool → AH → Prop) : Prop :=
 newC H ⟨[(qlk .i64 x1)], .rw, 0⟩ fun o4 H4 => newC H4 ⟨[(qlk .i64 x2)], .rw, 0⟩ fun o5 H5 => elI .i64 (AH.cell? H5 ⟨o5, 0, none⟩) fun n9 => bcase (decide ((n9 : Int) < (0 : Int))) (qbO.j1 x0 k o4 o5 H5 true) (elI .i64 (AH.cell? H5 ⟨o5, 0, none⟩) fun n12 => qbO.j1 x0 k o4 o5 H5 (decide ((n12 : Int) > (448 : Int))))
theorem qbO.link {x0 : Sl} {x1 : Int} {x2 : Int} {H : AH} {k : Bool → AH → Prop} (h : qbO.b x0 x1 x2 H k) : qbO x0 x1 x2 H k := lk1 pan hT hm Tryz.func172 (by kernel_rfl) (A := ann0) (by kernel_rfl) (by simp) (by kernel_rfl) h
def qcb.b (x0 : Sl) (x1 : Int) (x2 : Int) (H : AH) (k : Int → AH → Prop) : Prop :=
 qab x0 H fun s11a b11b H11 => bcase (!b11b) (k (6 : Int) H11) (qbO x0 x1 x2 H11 fun b19 H19 => bcase (!b19) (k (1 : Int) H19) (k (0 : Int) H19))
theorem qcb.link {x0 : Sl} {x1 : Int} {x2 : Int} {H : AH} {k : Int → AH → Prop} (h : qcb.b x0 x1 x2 H k) : qcb x0 x1 x2 H k := lk1 pan hT hm Tryz.func142 (by kernel_rfl) (A := ann0) (by kernel_rfl) (by simp) (by kernel_rfl) h
def qce.b (x0 : Sl) (x1 : Int) (x2 : Int) (H : AH) (k : Bool → AH → Prop) : Prop :=
 bcase (decide ((x1 : Int) ≥ (0 : Int))) (bcase (decide ((x2 : Int) ≥ (0 : Int))) (bcase (decide ((x2 : Int) ≤ (448 : Int))) (k (decide ((x1 : Int) ≤ (qll .i64 ((qll .i64 (((x0.n : Nat) : Int) * (8 : Int))) - x2)))) H) (k false H)) (k false H)) (k false H)
theorem qce.link {x0 : Sl} {x1 : Int} {x2 : Int} {H : AH} {k : Bool → AH → Prop} (h : qce.b x0 x1 x2 H k) : qce x0 x1 x2 H k := lk1 pan hT hm Tryz.func173 (by kernel_rfl) (A := ann0) (by kernel_rfl) (by simp) (by kernel_rfl) h
def qb9.l1 (x0 : Sl) (x1 : Int) (x2 : Int) (k : Sl → Bool → AH → Prop) (t5 : Sl × Int) (HL5 : AH) (it5 : (Sl × Int) → AH → Prop) : Prop :=
 bcase (decide ((t5.2 : Int) < (qll .i64 (x1 + x2)))) (((8 : Int) : Int) ≠ 0 ∧ (0 ≤ (qll .i64 (qmo t5.2 (8 : Int))) ∧ (qll .i64 (qmo t5.2 (8 : Int))) < ((x0.n : Nat) : Int)) ∧ onPtr x0.a fun a27 => elI .u64 (AH.cell? HL5 (qlm a27 (qlr (qll .i64 (qmo t5.2 (8 : Int))) * 1))) fun n28 => ((8 : Int) : Int) ≠ 0 ∧ (0 : Int) ≤ (qll .i64 ((qmg t5.2 (8 : Int)) * (8 : Int))) ∧ newC HL5 ⟨[(qlk .u8 (qll .u8 (shrI .u64 n28 (qll .i64 ((qmg t5.2 (8 : Int)) * (8 : Int))))))], .rw, 1⟩ fun o34 H34 => appendC 1 H34 t5.1 ⟨(some ⟨o34, 0, none⟩), 1, 1⟩ fun s35 H35 => it5 (s35, (qll .i64 (t5.2 + (1 : Int)))) H35) (k t5.1 true HL5)
def qb9.b (x0 : Sl) (x1 : Int) (x2 : Int) (H : AH) (k : Sl → Bool → AH → Prop) : Prop :=
 qce x0 x1 x2 H fun b13 H13 => bcase (!b13) (k ⟨none, 0, 0⟩ false H13) (loopT (qb9.l1 x0 x1 x2 k) ((⟨none, 0, 0⟩, x1) : Sl × Int) H13)
def qb9.ann : Ann := { keep := fun r => match r with | 5 => [(8, .sl), (9, .int .i64)] | _ => [], ord := fun r => match r with  | _ => [] }
theorem qb9.link {x0 : Sl} {x1 : Int} {x2 : Int} {H : AH} {k : Sl → Bool → AH → Prop} (h : qb9.b x0 x1 x2 H k) : qb9 x0 x1 x2 H k := lk2 pan hT hm Tryz.func143 (by kernel_rfl) (A := qb9.ann) (by kernel_rfl) (by simp) (by simp) (by kernel_rfl) h
def qcD.b (x0 : Sl) (x1 : Int) (x2 : Int) (H : AH) (k : Sl → Int → AH → Prop) : Prop :=
 qcb x0 x1 x2 H fun n14 H14 => bcase ((n14 : Int) != (0 : Int)) (k ⟨none, 0, 0⟩ n14 H14) (qb9 x0 x1 x2 H14 fun s22a b22b H22 => k s22a (0 : Int) H22)
theorem qcD.link {x0 : Sl} {x1 : Int} {x2 : Int} {H : AH} {k : Sl → Int → AH → Prop} (h : qcD.b x0 x1 x2 H k) : qcD x0 x1 x2 H k := lk2 pan hT hm Tryz.func103 (by kernel_rfl) (A := ann0) (by kernel_rfl) (by simp) (by simp) (by kernel_rfl) h
def qcp.b (x0 : Option Addr) (x1 : Int) (x2 : Int) (H : AH) (pk : Value → AH → Prop) (k : Sl → AH → Prop) : Prop :=
 qbn x0 H (fun pv11 Hp11 => pk pv11 Hp11) fun s11 H11 => qcD s11 x1 x2 H11 fun s14a n14b H14 => qaK n14b H14 (fun pv18 Hp18 => pk pv18 Hp18) fun H18 => k s14a H18
theorem qcp.link {x0 : Option Addr} {x1 : Int} {x2 : Int} {H : AH} {pk : Value → AH → Prop} {k : Sl → AH → Prop} (h : qcp.b x0 x1 x2 H pk k) : qcp x0 x1 x2 H pk k := lk1 pan hT hm Tryz.func51 (by kernel_rfl) (A := ann0) (by kernel_rfl) (by simp) (by kernel_rfl) h
def qaH.j1 (x1 : Int) (t5 : Sl × Int) (it5 : (Sl × Int) → AH → Prop) (n25 : Int) (x8 : Sl) (Hj : AH) : Prop :=
 (0 ≤ (qll .i64 (((x8.n : Nat) : Int) - (1 : Int))) ∧ (qll .i64 (((x8.n : Nat) : Int) - (1 : Int))) < ((x8.n : Nat) : Int)) ∧ onPtr x8.a fun a59 => elI .u64 (AH.cell? Hj (qlm (qlm a59 (qlr (qll .i64 (((x8.n : Nat) : Int) - (1 : Int))) * 2)) 1)) fun n64 => ((8 : Int) : Int) ≠ 0 ∧ (0 : Int) ≤ (qll .i64 ((qmg (qll .i64 (x1 + t5.2)) (8 : Int)) * (8 : Int))) ∧ ((8 : Int) : Int) ≠ 0 ∧ (0 : Int) ≤ (qll .i64 ((qmg (qll .i64 (x1 + t5.2)) (8 : Int)) * (8 : Int))) ∧ stC Hj (qlm (qlm a59 (qlr (qll .i64 (((x8.n : Nat) : Int) - (1 : Int))) * 2)) 1) [(qlk .u64 (orI .u64 (andNotI .u64 n64 (shlI .u64 (255 : Int) (qll .i64 ((qmg (qll .i64 (x1 + t5.2)) (8 : Int)) * (8 : Int))))) (shlI .u64 (qll .u64 n25) (qll .i64 ((qmg (qll .i64 (x1 + t5.2)) (8 : Int)) * (8 : Int))))))] fun Hs2 => it5 (x8, (qll .i64 (t5.2 + (1 : Int)))) Hs2
def qaH.j2 (x0 : Sl) (x1 : Int) (t5 : Sl × Int) (it5 : (Sl × Int) → AH → Prop) (HL5 : AH) (n25 : Int) (x43 : Bool) : Prop :=
 bcase x43 (((8 : Int) : Int) ≠ 0 ∧ ((8 : Int) : Int) ≠ 0 ∧ (0 ≤ (qll .i64 (qmo (qll .i64 (x1 + t5.2)) (8 : Int))) ∧ (qll .i64 (qmo (qll .i64 (x1 + t5.2)) (8 : Int))) < ((x0.n : Nat) : Int)) ∧ onPtr x0.a fun a50 => elI .u64 (AH.cell? HL5 (qlm a50 (qlr (qll .i64 (qmo (qll .i64 (x1 + t5.2)) (8 : Int))) * 1))) fun n51 => (qly [(qlk .i64 (qll .i64 (qmo (qll .i64 (x1 + t5.2)) (8 : Int)))), (qlk .u64 n51)] = 2) ∧ newC HL5 ⟨[(qlk .i64 (qll .i64 (qmo (qll .i64 (x1 + t5.2)) (8 : Int)))), (qlk .u64 n51)], .rw, 2⟩ fun o53 H53 => appendC 2 H53 t5.1 ⟨(some ⟨o53, 0, none⟩), 1, 1⟩ fun s54 H54 => qaH.j1 x1 t5 it5 n25 s54 H54) (qaH.j1 x1 t5 it5 n25 t5.1 HL5)
def qaH.l3 (x0 : Sl) (x1 : Int) (x2 : Sl) (k : Sl → Bool → AH → Prop) (t5 : Sl × Int) (HL5 : AH) (it5 : (Sl × Int) → AH → Prop) : Prop :=
 bcase (decide ((t5.2 : Int) < ((x2.n : Nat) : Int))) ((0 ≤ t5.2 ∧ t5.2 < ((x2.n : Nat) : Int)) ∧ onPtr x2.a fun a24 => elI .u8 (AH.cell? HL5 (qlm a24 (qlr t5.2 * 1))) fun n25 => bcase ((((t5.1.n : Nat) : Int) : Int) == (0 : Int)) (qaH.j2 x0 x1 t5 it5 HL5 n25 true) ((0 ≤ (qll .i64 (((t5.1.n : Nat) : Int) - (1 : Int))) ∧ (qll .i64 (((t5.1.n : Nat) : Int) - (1 : Int))) < ((t5.1.n : Nat) : Int)) ∧ onPtr t5.1.a fun a37 => elI .i64 (AH.cell? HL5 (qlm (qlm a37 (qlr (qll .i64 (((t5.1.n : Nat) : Int) - (1 : Int))) * 2)) 0)) fun n39 => ((8 : Int) : Int) ≠ 0 ∧ qaH.j2 x0 x1 t5 it5 HL5 n25 ((n39 : Int) != (qll .i64 (qmo (qll .i64 (x1 + t5.2)) (8 : Int)))))) (k t5.1 true HL5)
def qaH.b (x0 : Sl) (x1 : Int) (x2 : Sl) (H : AH) (k : Sl → Bool → AH → Prop) : Prop :=
 qce x0 x1 ((x2.n : Nat) : Int) H fun b17 H17 => bcase (!b17) (k ⟨none, 0, 0⟩ false H17) (loopT (qaH.l3 x0 x1 x2 k) ((⟨none, 0, 0⟩, (0 : Int)) : Sl × Int) H17)
def qaH.ann : Ann := { keep := fun r => match r with | 5 => [(8, .sl), (21, .int .i64)] | _ => [], ord := fun r => match r with | 11 => [0, 1, 2, 3, 4, 5, 6, 7, 8, 9, 10, 11, 12, 13, 14, 15, 16, 17, 18, 19] | _ => [] }
theorem qaH.link {x0 : Sl} {x1 : Int} {x2 : Sl} {H : AH} {k : Sl → Bool → AH → Prop} (h : qaH.b x0 x1 x2 H k) : qaH x0 x1 x2 H k := lk2 pan hT hm Tryz.func144 (by kernel_rfl) (A := qaH.ann) (by kernel_rfl) (by simp) (by simp) (by kernel_rfl) h
def qcu.b (x0 : Sl) (x1 : Int) (x2 : Sl) (H : AH) (k : Sl → Int → AH → Prop) : Prop :=
 qcb x0 x1 ((x2.n : Nat) : Int) H fun n15 H15 => bcase ((n15 : Int) != (0 : Int)) (k ⟨none, 0, 0⟩ n15 H15) (qaH x0 x1 x2 H15 fun s23a b23b H23 => k s23a (0 : Int) H23)
theorem qcu.link {x0 : Sl} {x1 : Int} {x2 : Sl} {H : AH} {k : Sl → Int → AH → Prop} (h : qcu.b x0 x1 x2 H k) : qcu x0 x1 x2 H k := lk2 pan hT hm Tryz.func104 (by kernel_rfl) (A := ann0) (by kernel_rfl) (by simp) (by simp) (by kernel_rfl) h
def qch.b (x0 : Option Addr) (x1 : Int) (x2 : Sl) (H : AH) (pk : Value → AH → Prop) (k : AH → Prop) : Prop :=
 qbn x0 H (fun pv10 Hp10 => pk pv10 Hp10) fun s10 H10 => qcu s10 x1 x2 H10 fun s15a n15b H15 => qaK n15b H15 (fun pv19 Hp19 => pk pv19 Hp19) fun H19 => bcase ((((s15a.n : Nat) : Int) : Int) == (0 : Int)) (k H19) (qaT x0 H19 (fun pv24 Hp24 => pk pv24 Hp24) fun H24 => qL x0 s10 s15a H24 (fun pv28 Hp28 => pk pv28 Hp28) fun H28 => k H28)
theorem qch.link {x0 : Option Addr} {x1 : Int} {x2 : Sl} {H : AH} {pk : Value → AH → Prop} {k : AH → Prop} (h : qch.b x0 x1 x2 H pk k) : qch x0 x1 x2 H pk k := lk0 pan hT hm Tryz.func52 (by kernel_rfl) (A := ann0) (by kernel_rfl) (by kernel_rfl) h
def qa0.j1 (x0 : Option Addr) (x1 : Int) (k : AH → Prop) (pk : Value → AH → Prop) (x14 : Bool) (Hj : AH) : Prop :=
 bcase x14 (pk (Value.iface 37 (qlk .i64 (1 : Int))) Hj) (qaT x0 Hj (fun pv17 Hp17 => pk pv17 Hp17) fun H17 => onPtr x0 fun a19 => elP (AH.cell? H17 (qlm a19 0)) fun p21 => qN p21 (2 : Int) (qll .u64 x1) H17 fun n24 H24 => qaK n24 H24 (fun pv25 Hp25 => pk pv25 Hp25) fun H25 => k H25)
def qa0.b (x0 : Option Addr) (x1 : Int) (H : AH) (pk : Value → AH → Prop) (k : AH → Prop) : Prop :=
 qbn x0 H (fun pv6 Hp6 => pk pv6 Hp6) fun s6 H6 => bcase ((x1 : Int) != (0 : Int)) (qcB s6 x1 H6 fun b12 H12 => qa0.j1 x0 x1 k pk (!b12) H12) (qa0.j1 x0 x1 k pk false H6)
theorem qa0.link {x0 : Option Addr} {x1 : Int} {H : AH} {pk : Value → AH → Prop} {k : AH → Prop} (h : qa0.b x0 x1 H pk k) : qa0 x0 x1 H pk k := lk0 pan hT hm Tryz.func53 (by kernel_rfl) (A := ann0) (by kernel_rfl) (by kernel_rfl) h
def pl (a b c d : Int) : List Value := [.int .i64 a, .int .i64 b, .int .i64 c, .int .i64 d]
def mayP (a b c d : Int) : Bool := decide (1 ≤ a ∧ a ≤ 64 ∧ 0 ≤ b ∧ b ≤ 16 ∧ 1 ≤ c ∧ c ≤ 1000 ∧ 1 ≤ d ∧ d ≤ 100)
def wordsP (a b c d : Int) : Int := if mayP a b c d = true then 8 * a else 0
def pagesP (a b c d : Int) : Int := if mayP a b c d = true then (a + 3) / 4 else 0
def logicalP (a b c d : Int) : Int := if mayP a b c d = true then 16 + a else 0
def deviceP (a b c d : Int) : Int := if mayP a b c d = true then 17 + a + b else 0
def homeP (a b c d x : Int) : Int := if mayP a b c d = true ∧ 0 ≤ x ∧ x < a then 16 + x else -1
section
variable {a b c d x : Int} {H : AH} {e : Nat}
theorem pl_row : AH.row? (H.push ⟨pl a b c d, .rw, e⟩) ⟨H.size, 0, none⟩ 4 = some (pl a b c d) := row_new rfl rfl
theorem pl_ld {k : List Value → Prop} : ldA (H.push ⟨pl a b c d, .rw, e⟩) ⟨H.size, 0, none⟩ 4 k ↔ k (pl a b c d) := qp pl_row
theorem pl_0 : AH.cell? (H.push ⟨pl a b c d, .rw, e⟩) (qlm ⟨H.size, 0, none⟩ 0) = some (.int .i64 a) := qdX _ _ _ _
theorem pl_1 : AH.cell? (H.push ⟨pl a b c d, .rw, e⟩) (qlm ⟨H.size, 0, none⟩ 1) = some (.int .i64 b) := qdX _ _ _ _
theorem pl_2 : AH.cell? (H.push ⟨pl a b c d, .rw, e⟩) (qlm ⟨H.size, 0, none⟩ 2) = some (.int .i64 c) := qdX _ _ _ _
theorem pl_3 : AH.cell? (H.push ⟨pl a b c d, .rw, e⟩) (qlm ⟨H.size, 0, none⟩ 3) = some (.int .i64 d) := qdX _ _ _ _
theorem qaf : mayP a b c d = true ↔ 1 ≤ a ∧ a ≤ 64 ∧ 0 ≤ b ∧ b ≤ 16 ∧ 1 ≤ c ∧ c ≤ 1000 ∧ 1 ≤ d ∧ d ≤ 100 := by simp [mayP]
theorem hK {o : AObj} {P : Prop} : (qc H (H.push o) ∧ P) ↔ P := ⟨fun h => h.2, fun h => ⟨(qc.refl H).push _, h⟩⟩
theorem qbK.s {k : Bool → AH → Prop} (h : k (mayP a b c d) H) : qbK (pl a b c d) H k := by
 refine gcB (mayP a b c d) (qbK.link ?_) h
 simp only [qbK.b, qv, pl_0, pl_1, pl_2, pl_3, qe, qi, decide_eq_true_eq, hK]
 repeat' split
 all_goals simp only [mayP, decide_eq_decide, Bool.false_eq, decide_eq_false_iff_not]
 all_goals omega
theorem qcG.s {k : Int → AH → Prop} (h : k (wordsP a b c d) H) : qcG (pl a b c d) H k := by
 refine gcI (wordsP a b c d) (qcG.link ?_) h
 simp only [qcG.b, qv, pl_ld]
 refine qbK.s ?_
 simp only [pl_0, qe, qi, hK, wordsP, qmM]
 cases hm : mayP a b c d
 ·simp
 ·have := qaf.1 hm
  simp only [Bool.true_eq_false, eq_self, if_false, if_true]
  rw [qg (by omega) (by omega)]
  omega
theorem qcw.s {k : Int → AH → Prop} (hx : -9223372036854775808 ≤ x ∧ x ≤ 9223372036854775807) (h : k ((if 0 > x then 0 else x) / 4) H) : qcw x H k := by
 refine gcI ((if 0 > x then 0 else x) / 4) (qcw.link ?_) h
 refine ⟨by decide, qc.refl H, ?_⟩
 have : (0 : Int) ≤ (if 0 > x then 0 else x) := by split <;> omega
 rw [qlY this, qg (by split <;> omega) (by split <;> omega)]
theorem qcH.s {k : Int → AH → Prop} (h : k (pagesP a b c d) H) : qcH (pl a b c d) H k := by
 refine gcI (pagesP a b c d) (qcH.link ?_) h
 simp only [qcH.b, qv, pl_ld]
 refine qbK.s ?_
 simp only [pl_0, qe, qi, hK, pagesP, qmM]
 cases hm : mayP a b c d
 ·simp
 ·have := qaf.1 hm
  simp only [Bool.true_eq_false, eq_self, if_false, if_true]
  rw [qg (by omega) (by omega)]
  refine qcw.s (by omega) ?_
  rw [qg (by split <;> omega) (by split <;> omega)]
  simp only [hK]
  split <;> omega
theorem qbV.s {k : Int → AH → Prop} (h : k (logicalP a b c d) H) : qbV (pl a b c d) H k := by
 refine gcI (logicalP a b c d) (qbV.link ?_) h
 simp only [qbV.b, qv, pl_ld]
 refine qbK.s ?_
 simp only [pl_0, qe, qi, hK, logicalP, qmM]
 cases hm : mayP a b c d
 ·simp
 ·have := qaf.1 hm
  simp only [Bool.true_eq_false, eq_self, if_false, if_true]
  rw [qg (by omega) (by omega)]
theorem qbP.s {k : Int → AH → Prop} (h : k (deviceP a b c d) H) : qbP (pl a b c d) H k := by
 refine gcI (deviceP a b c d) (qbP.link ?_) h
 simp only [qbP.b, qv, pl_ld]
 refine qbK.s ?_
 simp only [pl_0, pl_1, qe, qi, hK, deviceP, qmM]
 cases hm : mayP a b c d
 ·simp
 ·have := qaf.1 hm
  simp only [Bool.true_eq_false, eq_self, if_false, if_true]
  rw [pl_ld]
  refine qbV.s ?_
  refine ⟨pl_1, ?_⟩
  simp only [logicalP, hm, if_true, hK]
  rw [qg (n := 16 + a + 1) (by omega) (by omega), qg (by omega) (by omega)]
  omega
theorem qbQ.s {k : Int → AH → Prop} (h : k (homeP a b c d x) H) : qbQ (pl a b c d) x H k := by
 refine gcI (homeP a b c d x) (qbQ.link ?_) h
 simp only [qbQ.b, qv, pl_ld]
 refine qbK.s ?_
 simp only [pl_0, pl_1, qe, qi, hK, homeP, qmM, decide_eq_true_eq]
 cases hm : mayP a b c d
 ·simp
 ·have := qaf.1 hm
  simp only [Bool.true_eq_false, eq_self, if_false, true_and]
  split
  ·rw [if_neg (by omega)]
  ·split
   ·rw [if_neg (by omega)]
   ·rw [if_pos (by omega), qg (by omega) (by omega)]
end
def opl (K a b c : Int) (s : Sl) : List Value := [.int .i64 K, .int .i64 a, .int .i64 b, .int .i64 c, s.val]
def linesP (K b : Int) (n : Nat) : Int :=
 if K = 1 then (if 0 ≤ b ∧ b ≤ 448 then b / 64 + 4 else 0) else if K = 4 then (if n ≤ 448 then (n : Int) / 64 + 2 else 0) else if K = 2 then 1 else 0
section
variable {K a b c d m x : Int} {sl : Sl} {H : AH} {e : Nat}
theorem elL_val {k : Sl → Prop} : elL (some sl.val) k ↔ k sl := qat _ _ _ _
theorem qfN : 0 ≤ linesP K b sl.n ∧ linesP K b sl.n ≤ 11 := by
 unfold linesP
 repeat' split
 all_goals omega
theorem op_len : (opl K a b c sl).length = 5 := rfl
theorem op_ok : (opl K a b c sl).all qq = true := rfl
end
def isU (n : Int) : Prop := 0 ≤ n ∧ n ≤ 18446744073709551615
def isI (n : Int) : Prop := -9223372036854775808 ≤ n ∧ n ≤ 9223372036854775807
def isB (n : Int) : Prop := 0 ≤ n ∧ n ≤ 255
def iV (v : Int) : List Value := [.int .i64 v]
def wU (v : Int) : List Value := [.int .u64 v]
def bU (v : Int) : List Value := [.int .u8 v]
end Go.Proofs.YtemeclnpdpkfdaaGreat
namespace Go.Abs
theorem own_len {α : Type} {B : Nat} {H : AH} {s : Sl} {z : Nat} {f : α → List Value} {l : List α} (h : Own B H s z f l) : s.n = l.length := by
 rcases h with ⟨rfl, rfl⟩ | ⟨b, rfl, _, _, _⟩ <;> rfl
theorem qko {α : Type} {cells : List Value} {z : Nat} {f : α → List Value} : ∀ {l : List α} {o : Nat}, (∀ i x, l[i]? = some x → (cells.drop (o + i * z)).take z = f x ∧ (f x).length = z) → (cells.drop o).take (l.length * z) = l.flatMap f := by
 intro l
 induction l with
 | nil => intro o _; simp
 | cons a r ih =>
  intro o h
  have h0 := h 0 a rfl
  rw [Nat.zero_mul, Nat.add_zero] at h0
  have hr := ih (o := o + z) fun i x hx => by
   have := h (i + 1) x (by simpa using hx)
   rw [show o + z + i * z = o + (i + 1) * z by rw [Nat.add_mul]; omega]
   exact this
  simp only [List.length_cons, ql7]
  rw [Nat.add_mul, Nat.one_mul, Nat.add_comm, List.take_add, h0.1, List.drop_drop, hr]
theorem qhw {α : Type} {H : AH} {s : Sl} {z : Nat} {f : α → List Value} {l : List α} (hf : ∀ x, (f x).length = z) (hc : ∀ x, (f x).all qq = true) (h : Rows H s z f l) : AH.rowS? H s z = some (l.flatMap f) := by
 simp only [AH.rowS?]
 by_cases h0 : s.n = 0
 ·rw [if_pos h0]
  have : l = [] := List.length_eq_zero_iff.1 (by rw [← h.1]; exact h0)
  subst this; rfl
 ·rw [if_neg h0]
  have hpos : 0 < l.length := by rw [← h.1]; omega
  obtain ⟨b, o, ha, hb, _⟩ := h.at hpos
  have hrow : ∀ i x, l[i]? = some x → AH.row? H ⟨b, o + i * z, none⟩ z = some (f x) := by
   intro i x hx
   obtain ⟨a, e1, e2, e3, e4⟩ := h.2 i x hx
   rw [ha] at e1
   injection e1 with e1
   subst e1
   exact e4
  have hun : ∀ i x, l[i]? = some x → (H.get b).md ≠ .dead ∧ ((H.get b).cells.drop (o + i * z)).take z = f x ∧ o + i * z + z ≤ (H.get b).cells.length := by
   intro i x hx
   have := hrow i x hx
   simp only [AH.row?, qlF, qlw, if_false] at this
   split at this
   ·cases this
   ·rename_i hd
    split at this
    ·rename_i hh
     injection this with this
     exact ⟨hd, this, hh.1⟩
    ·cases this
  have hl := hun (l.length - 1) l[l.length - 1] (qln (by omega))
  have hflat := qko (cells := (H.get b).cells) (z := z) (f := f) (l := l) (o := o) fun i x hx => ⟨(hun i x hx).2.1, hf x⟩
  have hle : o + l.length * z ≤ (H.get b).cells.length := by
   have := hl.2.2
   obtain ⟨n, hn⟩ : ∃ n, l.length = n + 1 := ⟨l.length - 1, by omega⟩
   rw [hn] at this ⊢
   rw [Nat.add_sub_cancel] at this
   rw [Nat.add_mul]
   omega
  have hall : (l.flatMap f).all qq = true := by simp [List.all_flatMap, hc]
  rw [ha]
  simp only [AH.row?, qlF, qlw, if_false]
  rw [if_neg hl.1, h.1, hflat, if_pos ⟨hle, hall⟩]
theorem qfw {α : Type} {H0 H : AH} {B : Nat} {s t : Sl} {z : Nat} {f : α → List Value} {l r : List α} {k : Sl → AH → Prop} (hf : ∀ x, (f x).length = z) (hc : ∀ x, (f x).all qq = true)
  (hO : Own B H s z f l) (hR : Rows H t z f r) (hB : H0.size ≤ B) (hBH : B ≤ H.size) (hK : qc H0 H) (hlim : l.length + r.length ≤ limS z)
  (h : ∀ s' H', Own B H' s' z f (l ++ r) → qc H0 H' → H.size ≤ H'.size → (∀ b, b < H.size → (∀ a, s.a = some a → b ≠ a.block) → H'.get b = H.get b) → k s' H') :
  appendC z H s t k := by
 have hrow := qhw hf hc hR
 have hge := hK.1
 have hs : s.n = l.length := own_len hO
 refine ⟨by rw [hs, hR.1]; exact hlim, ?_⟩
 by_cases h0 : t.n = 0
 ·rw [if_pos h0]
  have : r = [] := List.length_eq_zero_iff.1 (by rw [← hR.1]; exact h0)
  subst this
  refine h _ _ (by rw [List.append_nil]; exact hO) hK (Nat.le_refl _) fun _ _ _ => rfl
 rw [if_neg h0]
 refine ⟨_, hrow, ?_⟩
 have ht := hR.1
 rcases hO with ⟨rfl, rfl⟩ | ⟨b, rfl, hb1, hb2, hg⟩
 ·refine h _ _ (.inr ⟨H.size, ?_, ?_, ?_, ?_⟩) (hK.push _) (by simp [qm]) ?_
  ·simp [newAt, ht]
  ·omega
  ·simp [qm]
  ·simp [qs]
  ·intro b hb _; exact qO (by omega)
 ·refine ⟨⟨rfl, rfl, rfl, by rw [hg], by rw [hg, qd1 hf], by rw [hg]⟩, ?_⟩
  refine h _ _ (.inr ⟨H.size, ?_, ?_, ?_, ?_⟩) ((hK.kill (b := b) (Nat.le_trans hB hb1)).push _) (by simp [qm, qbA]) ?_
  ·simp [newAt, ht]
  ·omega
  ·simp [qm, qbA]
  ·simp only [qs, qbA, if_true]
   rw [hg]
   simp
  ·intro b' hb' hne
   have hne' : b' ≠ b := hne _ rfl
   rw [qO (by simp only [qbA]; omega), qd5 hne']
theorem qct {α : Type} {H0 H : AH} {B : Nat} {s t : Sl} {z : Nat} {f : α → List Value} {l r : List α} {k : Sl → AH → Prop} (hf : ∀ x, (f x).length = z) (hc : ∀ x, (f x).all qq = true)
  (hO : Own B H s z f l) (hR : Rows H t z f r) (hB : H0.size ≤ B) (hBH : B ≤ H.size) (hK : qc H0 H) (hlim : l.length + r.length ≤ lim)
  (h : ∀ s' H', Own B H' s' z f (l ++ r) → qc H0 H' → H.size ≤ H'.size → (∀ b, b < H.size → (∀ a, s.a = some a → b ≠ a.block) → H'.get b = H.get b) → k s' H') :
  appendC z H s t k := qfw hf hc hO hR hB hBH hK (le_limS hlim z) h
theorem qem {α : Type} {H : AH} {s : Sl} {z : Nat} {f : α → List Value} {l : List α} {k : Nat} (h : Rows H s z f l) (hk : k ≤ l.length) : Rows H ⟨s.a, k, 0⟩ z f (l.take k) := by
 refine ⟨by simp; omega, fun i x hi => h.2 i x ?_⟩
 rw [qmd] at hi
 split at hi
 ·exact hi
 ·cases hi
theorem qen {α : Type} {H : AH} {s : Sl} {z : Nat} {f : α → List Value} {l : List α} {k : Nat} (h : Rows H s z f l) (hk : k ≤ l.length) : Rows H ⟨Option.map (fun x => qlm x (k * z)) s.a, s.n - k, 0⟩ z f (l.drop k) := by
 refine ⟨by simp [h.1], fun i x hi => ?_⟩
 rw [qme] at hi
 obtain ⟨a, h1, h2, h3, h4⟩ := h.2 _ _ hi
 obtain ⟨b, o, sp⟩ := a
 simp only at h2 h3 h4
 subst h2
 refine ⟨⟨b, o + k * z, none⟩, by rw [h1, Option.map_some, qk], rfl, h3, ?_⟩
 rw [← h4]
 simp only
 congr 2
 rw [Nat.add_mul]; omega
def getB (v : Int) (j : Nat) : Int := (v / 2 ^ (8 * j)) % 256
def setB (v : Int) (j : Nat) (c : Int) : Int :=
 ((((qmc 64 v) &&& ~~~(BitVec.ofNat 64 (255 * 2 ^ (8 * j)))) ||| (BitVec.ofNat 64 (c.toNat * 2 ^ (8 * j)))).toNat : Int)
theorem qjs (v : Int) (j : Nat) (c : Int) : 0 ≤ setB v j c ∧ setB v j c ≤ 18446744073709551615 := by
 unfold setB
 have := (((qmc 64 v) &&& ~~~(BitVec.ofNat 64 (255 * 2 ^ (8 * j)))) ||| (BitVec.ofNat 64 (c.toNat * 2 ^ (8 * j)))).isLt
 omega
theorem qgs (n j : Nat) : getB (n : Int) j = ((n / 2 ^ (8 * j)) % 256 : Nat) := by
 unfold getB
 rw [Int.natCast_emod, Int.natCast_ediv, Int.natCast_pow]
 rfl
theorem qey (n j t : Nat) : ((n / 2 ^ (8 * j)) % 256).testBit t = (decide (t < 8) && n.testBit (8 * j + t)) := by
 have : (256 : Nat) = 2 ^ 8 := rfl
 rw [this, Nat.testBit_mod_two_pow, Nat.testBit_div_two_pow, Nat.add_comm]
theorem qgZ {v c : Int} {j : Nat} (hj : j < 8) (hc : 0 ≤ c ∧ c ≤ 255) : getB (setB v j c) j = c := by
 obtain ⟨n, rfl⟩ := qlI hc.1
 unfold setB
 rw [qgs]
 congr 1
 apply Nat.eq_of_testBit_eq
 intro t
 rw [qey, BitVec.testBit_toNat]
 simp only [qlp]
 have hn : n < 2 ^ 8 := by omega
 by_cases ht : t < 8
 ·have h64 : 8 * j + t < 64 := by omega
  simp only [ht, decide_true, Bool.true_and, BitVec.getLsbD_or, BitVec.getLsbD_and, BitVec.getLsbD_not, BitVec.getLsbD_ofNat, h64, Nat.testBit_mul_two_pow]
  rw [show decide (8 * j + t ≥ 8 * j) = true from by simp, show 8 * j + t - 8 * j = t from by omega]
  have h255 : Nat.testBit 255 t = true := by
   have : (255 : Nat) = 2 ^ 8 - 1 := rfl
   rw [this, Nat.testBit_two_pow_sub_one]; simpa using ht
  simp [h255]
 ·have : n.testBit t = false := Nat.testBit_lt_two_pow (qmA hn (Nat.pow_le_pow_right (by omega) (by omega)))
  simp [ht, this]
theorem qgy {v c : Int} {j i : Nat} (hv : 0 ≤ v ∧ v ≤ 18446744073709551615) (hj : j < 8) (hi : i < 8) (hij : i ≠ j) (hc : 0 ≤ c ∧ c ≤ 255) : getB (setB v j c) i = getB v i := by
 obtain ⟨n, rfl⟩ := qlI hc.1
 obtain ⟨m, rfl⟩ := qlI hv.1
 unfold setB
 rw [qgs, qgs]
 congr 1
 apply Nat.eq_of_testBit_eq
 intro t
 rw [qey, qey, BitVec.testBit_toNat]
 simp only [qlp]
 have hn : n < 2 ^ 8 := by omega
 by_cases ht : t < 8
 ·have h64 : 8 * i + t < 64 := by omega
  simp only [ht, decide_true, Bool.true_and, BitVec.getLsbD_or, BitVec.getLsbD_and, BitVec.getLsbD_not, BitVec.getLsbD_ofNat, h64, Nat.testBit_mul_two_pow, BitVec.ofInt_natCast]
  have hz : ∀ q : Nat, q < 2 ^ 8 → (decide (8 * i + t ≥ 8 * j) && q.testBit (8 * i + t - 8 * j)) = false := by
   intro q hq
   by_cases hge : 8 * i + t ≥ 8 * j
   ·have : 8 ≤ 8 * i + t - 8 * j := by omega
    rw [Nat.testBit_lt_two_pow (qmA hq (Nat.pow_le_pow_right (by omega) this))]; simp
   ·simp [hge]
  rw [hz 255 (by omega), hz n hn]
  simp
 ·simp [ht]
theorem qip {v : Int} (hv : 0 ≤ v ∧ v ≤ 18446744073709551615) {j : Nat} (hj : j < 8) : qll .u8 (shrI .u64 v (8 * (j : Int))) = getB v j := by
 unfold shrI getB
 rw [show (min ((8 * (j : Int)).toNat) (qmn .u64)) = 8 * j from by simp [qmn]; omega]
 rw [Int.fdiv_eq_ediv_of_nonneg _ (Int.pow_nonneg (by omega))]
 simp only [qll, qmn, IntKind.signed, Bool.false_and, Int.reducePow, qlw, if_false]
theorem qeg (x : Int) : qmc 64 (qll .u64 x) = qmc 64 x := by
 simp only [qll, qmn, IntKind.signed, Bool.false_and, qlw, if_false]
 apply BitVec.eq_of_toInt_eq
 simp only [BitVec.toInt_ofInt]
 exact Int.emod_bmod x (2 ^ 64)
theorem qle (n : Nat) (h : n < 2 ^ 64) : qll .u64 (n : Int) = n := qbI (by omega) (by omega)
theorem qiq {v c : Int} (hc : 0 ≤ c ∧ c ≤ 255) {j : Nat} (hj : j < 8) :
  orI .u64 (andNotI .u64 v (shlI .u64 255 (8 * (j : Int)))) (shlI .u64 (qll .u64 c) (8 * (j : Int))) = setB v j c := by
 have h1 : ∀ x : Int, shlI .u64 x (8 * (j : Int)) = qll .u64 (x * 2 ^ (8 * j)) := by
  intro x
  unfold shlI
  rw [show (min ((8 * (j : Int)).toNat) (qmn .u64)) = 8 * j from by simp [qmn]; omega]
 have h2 : ∀ a b : Int, andNotI .u64 a b = qll .u64 ((qmc 64 a &&& ~~~(qmc 64 b)).toNat : Int) := fun _ _ => rfl
 have h3 : ∀ a b : Int, orI .u64 a b = qll .u64 ((qmc 64 a ||| qmc 64 b).toNat : Int) := fun _ _ => rfl
 rw [h3, h2, h1, h1, qbI (n := c) (by omega) (by omega), qeg, qeg, qeg, qle _ (BitVec.isLt _)]
 unfold setB
 obtain ⟨n, rfl⟩ := qlI hc.1
 have e1 : (255 : Int) * 2 ^ (8 * j) = ((255 * 2 ^ (8 * j) : Nat) : Int) := by rw [Int.natCast_mul, Int.natCast_pow]; rfl
 have e2 : (n : Int) * 2 ^ (8 * j) = ((n * 2 ^ (8 * j) : Nat) : Int) := by rw [Int.natCast_mul, Int.natCast_pow]; rfl
 rw [e1, e2]
 simp only [BitVec.ofInt_natCast, qlp, BitVec.ofNat_toNat, BitVec.setWidth_eq]
end Go.Abs
namespace Go.Proofs.YtemeclnpdpkfdaaGreat
open Go Go.Abs
theorem qj6 {H : AH} {b o : Nat} {v : Value} (h : AH.row? H ⟨b, o, none⟩ 1 = some [v]) : AH.cell? H ⟨b, o, none⟩ = some v := by
 have := (AH.row?_cell h).2.2.2.2 0 v rfl
 simpa using this
theorem qbG {α : Type} {H : AH} {s : Sl} {g : α → Value} {l : List α} (h : Abs.Rows H s 1 (fun x => [g x]) l) {i : Nat} (hi : i < l.length) :
  ∃ b o, s.a = some ⟨b, o, none⟩ ∧ b < H.size ∧ AH.cell? H (qlm ⟨b, o, none⟩ (i * 1)) = some (g (l[i])) := by
 obtain ⟨b, o, h1, h2, h3⟩ := h.at hi
 refine ⟨b, o, h1, h2, ?_⟩
 rw [qk] at h3 ⊢
 exact qj6 h3
def inside (len : Nat) (off n : Int) : Prop := 0 ≤ off ∧ 0 ≤ n ∧ n ≤ 448 ∧ off ≤ 8 * len - n
instance (len : Nat) (off n : Int) : Decidable (inside len off n) := by unfold inside; infer_instance
def byteAt (ws : List Int) (i : Nat) : Int := getB (ws.getD (i / 8) 0) (i % 8)
def bytesOf (ws : List Int) (off n : Nat) : List Int := (List.range n).map fun j => byteAt ws (off + j)
def qaE (ws : List Int) : Prop := ∀ v ∈ ws, 0 ≤ v ∧ v ≤ 18446744073709551615
section
variable {off n : Int} {H : AH} {sl : Sl}
theorem qce.s {k : Bool → AH → Prop} (hs : sl.n ≤ 1000000000) (ho : -9223372036854775808 ≤ off ∧ off ≤ 9223372036854775807) (h : k (decide (inside sl.n off n)) H) : qce sl off n H k := by
 refine gcB (decide (inside sl.n off n)) (qce.link ?_) h
 simp only [qce.b, qi, decide_eq_true_eq, qc.refl, true_and]
 by_cases h1 : off ≥ 0
 ·rw [if_pos h1]
  by_cases h2 : n ≥ 0
  ·rw [if_pos h2]
   by_cases h3 : n ≤ 448
   ·rw [if_pos h3, qg (n := (sl.n : Int) * 8) (by omega) (by omega), qg (by omega) (by omega)]
    refine decide_eq_decide.2 ?_; unfold inside; omega
   ·rw [if_neg h3]; refine (decide_eq_false ?_).symm; unfold inside; omega
  ·rw [if_neg h2]; refine (decide_eq_false ?_).symm; unfold inside; omega
 ·rw [if_neg h1]; refine (decide_eq_false ?_).symm; unfold inside; omega
theorem qb9.s {ws : List Int} {k : Sl → Bool → AH → Prop} (hw : Abs.Rows H sl 1 wU ws) (h64 : qaE ws) (hlen : ws.length ≤ 1000000) (ho : -9223372036854775808 ≤ off ∧ off ≤ 9223372036854775807)
  (h1 : inside ws.length off n → ∀ s H', qc H H' → Own H.size H' s 1 bU (bytesOf ws off.toNat n.toNat) → k s true H') (h0 : ¬ inside ws.length off n → k ⟨none, 0, 0⟩ false H) : qb9 sl off n H k := by
 refine qb9.link ?_
 unfold qb9.b
 have hn : sl.n = ws.length := hw.1
 refine qce.s (by omega) ho ?_
 rw [hn]
 by_cases hin : inside ws.length off n
 ·rw [show decide (inside ws.length off n) = true from by simpa using hin, Bool.not_true, qa]
  have hin' := hin
  unfold inside at hin
  refine qE (t := ((⟨none, 0, 0⟩, off) : Sl × Int)) (H := H) (I := fun (t : Sl × Int) H' => ∃ j : Nat, t.2 = off + j ∧ (j : Int) ≤ n ∧ qc H H' ∧ Own H.size H' t.1 1 bU (bytesOf ws off.toNat j)) (m := fun (t : Sl × Int) _ => qlr (off + n - t.2)) ?_ ?_
  ·intro t H1 hI it hit
   obtain ⟨s, i⟩ := t
   obtain ⟨j, hi, hj, hK, hO⟩ := hI
   simp only at hi hO
   subst hi
   have hR := hw.keep hK
   unfold qb9.l1
   simp only
   rw [qg (n := off + n) (by omega) (by omega)]
   by_cases hlt : (j : Int) < n
   ·rw [show decide (off + (j : Int) < off + n) = true from by simp; omega, qf]
    rw [qlY (by omega), Int.tmod_eq_emod_of_nonneg (by omega), qg (n := (off + (j : Int)) / 8) (by omega) (by omega), hn]
    have hidx : ((off + (j : Int)) / 8).toNat < ws.length := by omega
    obtain ⟨b, o, ha, hb, hcell⟩ := qbG (g := fun v => qlk .u64 v) hR hidx
    refine ⟨by decide, ⟨by omega, by omega⟩, ?_⟩
    rw [ha, qd, hcell, qe, qg (n := (off + (j : Int)) % 8 * 8) (by omega) (by omega)]
    refine ⟨by decide, by omega, ?_⟩
    have hjm : ((off + (j : Int)) % 8) = (((off.toNat + j) % 8 : Nat) : Int) := by omega
    have hidx' : ((off + (j : Int)) / 8).toNat = (off.toNat + j) / 8 := by omega
    have hv := h64 _ (List.getElem_mem hidx)
    have hbyte : qll .u8 (shrI .u64 ws[((off + (j : Int)) / 8).toNat] ((off + (j : Int)) % 8 * 8)) = byteAt ws (off.toNat + j) := by
     rw [Int.mul_comm, hjm, qip hv (by omega)]
     unfold byteAt
     rw [List.getD_eq_getElem?_getD, ← hidx', qln hidx, Option.getD_some]
    rw [hbyte]
    simp only [qv]
    refine qbh (H0 := H) (B := H.size) (f := bU) (x := byteAt ws (off.toNat + j)) (l := bytesOf ws off.toNat j) (fun _ => rfl) rfl hO (Nat.le_refl _) hK.1 hK (by simp only [bytesOf, List.length_map, List.length_range, lim]; omega) ?_
    intro s' H' hO' hK' _ _
    rw [qg (n := off + (j : Int) + 1) (by omega) (by omega)]
    refine hit _ _ ⟨j + 1, by simp only; omega, by omega, hK', ?_⟩ (by simp only; omega)
    have : bytesOf ws off.toNat (j + 1) = bytesOf ws off.toNat j ++ [byteAt ws (off.toNat + j)] := by simp [bytesOf, List.range_succ]
    rw [this]; exact hO'
   ·rw [show decide (off + (j : Int) < off + n) = false from by simp; omega, qa]
    have hjn : n.toNat = j := by omega
    exact h1 hin' _ _ hK (hjn ▸ hO)
  ·exact ⟨0, by simp, by omega, qc.refl H, .inl ⟨rfl, rfl⟩⟩
 ·rw [show decide (inside ws.length off n) = false from by simpa using hin, Bool.not_false, qf]
  exact h0 hin
end
end Go.Proofs.YtemeclnpdpkfdaaGreat
namespace Go.Abs
theorem qkS {α : Type} {f : α → List Value} {z : Nat} (hf : ∀ x, (f x).length = z) {j : Nat} {v : Value} (hj : j < z) : ∀ (l : List α) (i : Nat) (x y : α), l[i]? = some x → f y = (f x).set j v →
  (l.flatMap f).set (i * z + j) v = (l.set i y).flatMap f := by
 intro l
 induction l with
 | nil => intro i x y h; simp at h
 | cons a l ih =>
  intro i x y h hy
  cases i with
  | zero =>
   simp only [List.getElem?_cons_zero, Option.some.injEq] at h
   subst h
   simp only [Nat.zero_mul, Nat.zero_add, ql7, List.set_cons_zero]
   rw [hy, List.set_append_left _ _ (by rw [hf]; exact hj)]
  | succ i =>
   simp only [List.getElem?_cons_succ] at h
   simp only [ql7, List.set_cons_succ]
   rw [← ih i x y h hy, List.set_append_right _ _ (by rw [hf, Nat.succ_mul]; omega)]
   congr 2
   rw [hf, Nat.succ_mul]; omega
theorem Own.cell {α : Type} {B : Nat} {H : AH} {s : Sl} {z : Nat} {f : α → List Value} {l : List α} (h : Own B H s z f l) (hf : ∀ x, (f x).length = z) {i : Nat} {x : α} (hi : l[i]? = some x) {j : Nat} (hj : j < z) :
  ∃ b, s.a = some ⟨b, 0, none⟩ ∧ B ≤ b ∧ b < H.size ∧ AH.cell? H ⟨b, i * z + j, none⟩ = (f x)[j]? := by
 rcases h with ⟨_, rfl⟩ | ⟨b, rfl, h1, h2, hg⟩
 ·simp at hi
 ·refine ⟨b, rfl, h1, h2, ?_⟩
  simp only [AH.cell?, hg, qlF, qlw, if_false]
  rw [if_neg (by simp)]
  have := qhK hf l i x hi
  rw [← this, qmd, if_pos hj, qme]
theorem Own.put {α : Type} {B : Nat} {H : AH} {s : Sl} {z : Nat} {f : α → List Value} {l : List α} (h : Own B H s z f l) (hf : ∀ x, (f x).length = z) {i : Nat} {x y : α} (hi : l[i]? = some x) {j : Nat} (hj : j < z) {v : Value}
  (hy : f y = (f x).set j v) : ∃ b, s.a = some ⟨b, 0, none⟩ ∧ B ≤ b ∧ b < H.size ∧ AH.canPut H ⟨b, i * z + j, none⟩ 1 ∧ Own B (H.put ⟨b, i * z + j, none⟩ [v]) s z f (l.set i y) ∧
   ∀ b', b' ≠ b → (H.put ⟨b, i * z + j, none⟩ [v]).get b' = H.get b' := by
 rcases h with ⟨_, rfl⟩ | ⟨b, rfl, h1, h2, hg⟩
 ·simp at hi
 ·have hlt : i < l.length := (List.getElem?_eq_some_iff.1 hi).1
  have hle : i * z + j + 1 ≤ (l.flatMap f).length := by
   rw [qd1 hf]
   calc i * z + j + 1 ≤ i * z + z := by omega
    _ = (i + 1) * z := by rw [Nat.succ_mul]
    _ ≤ l.length * z := Nat.mul_le_mul_right _ hlt
  refine ⟨b, rfl, h1, h2, ⟨rfl, by rw [hg], by rw [hg]; exact hle⟩, .inr ⟨b, by simp, h1, h2, ?_⟩, fun b' hb' => ?_⟩
  ·simp only [AH.put, qT, if_true, hg, setMany]
   rw [qkS hf hj l i x y hi hy]
  ·simp only [AH.put, qT]; rw [if_neg hb']
end Go.Abs
