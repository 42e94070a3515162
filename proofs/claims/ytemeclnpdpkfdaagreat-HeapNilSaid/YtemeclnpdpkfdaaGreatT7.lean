/- Lemmas for the law: an abstract machine, and what the functions do on it. No condition. -/
import Derived.Test.YtemeclnpdpkfdaaGreatT6
import Derived.Test.YtemeclnpdpkfdaaGreatProg
set_option linter.all false
open Go.Value renaming int → qki, pointer → qkq, slice → qkS, bool → qlh, agg → qlj
open List renaming getElem?_eq_getElem → qkj, getD_eq_getElem?_getD → qkk, getElem?_eq_none → qkp, getElem?_eq_some_iff → qkr, mem_of_getElem? → qkv, length → qkx, getElem_mem → qky, length_cons → qkA, mem_cons → qkD, ext_getElem? → qkH, getElem?_set_ne → qkK, toArray → qkP, length_eq_zero_iff → qkT, cons_append → qkV, getElem?_set_self → qkY, flatMap_cons → qkZ, range → qk3, all → qk7, getElem?_take → qk9, getElem?_drop → qla, map_cons → qld, take_of_length_le → qle, take_length → qlk, mem_or_eq_of_mem_set → qll, range_succ → qlo, drop_zero → qlt
open Go.IntKind renaming wrap → qkl, bits → qli
open Go.Addr renaming add → qkm
open Int renaming toNat_natCast → qko, toNat → qku, eq_ofNat_of_zero_le → qkF, tdiv_eq_ediv_of_nonneg → qlg, tdiv → qlH
open Nat renaming le_refl → qks, zero_add → qkE, lt_of_lt_of_le → qlp
open Bool renaming false_eq_true → qkt, not_eq_true' → qlu
open Option renaming isSome_none → qkC, getD_some → qkU, isNone → qk2, toList_some → qlI
open Go.Abs renaming Rows → qkO
open BitVec renaming ofInt → qk5
namespace Go.Proofs.YtemeclnpdpkfdaaGreat
open Go Go.Abs
set_option linter.unusedVariables false
set_option maxRecDepth 100000
def tyL : List (Nat × TyE) := [
 (3, { k := .int .i64, sub := .none, size := 1, bytes := 8, zero := [(qki .i64 (0 : Int))], eqs := false }),
 (4, { k := .bool, sub := .none, size := 1, bytes := 1, zero := [(qlh false)], eqs := false }),
 (5, { k := .int .u8, sub := .none, size := 1, bytes := 1, zero := [(qki .u8 (0 : Int))], eqs := false }),
 (9, { k := .str, sub := .none, size := 1, bytes := 16, zero := [(Value.string ⟨#[]⟩)], eqs := false }),
 (23, { k := .agg, sub := (.fields [(0, 3), (1, 3), (2, 3), (3, 3)]), size := 4, bytes := 32, zero := [(qki .i64 (0 : Int)), (qki .i64 (0 : Int)), (qki .i64 (0 : Int)), (qki .i64 (0 : Int))], eqs := true }),
 (24, { k := .sl, sub := (.elem 35), size := 1, bytes := 24, zero := [(qkS none 0 0)], eqs := false }),
 (28, { k := .int .u64, sub := .none, size := 1, bytes := 8, zero := [(qki .u64 (0 : Int))], eqs := false }),
 (29, { k := .ptr, sub := (.elem 90), size := 1, bytes := 8, zero := [(qkq none)], eqs := false }),
 (30, { k := .ptr, sub := (.elem 132), size := 1, bytes := 8, zero := [(qkq none)], eqs := false }),
 (33, { k := .sl, sub := (.elem 5), size := 1, bytes := 24, zero := [(qkS none 0 0)], eqs := false }),
 (35, { k := .agg, sub := (.fields [(0, 3), (1, 3), (2, 3), (3, 3), (4, 33)]), size := 5, bytes := 56, zero := [(qki .i64 (0 : Int)), (qki .i64 (0 : Int)), (qki .i64 (0 : Int)), (qki .i64 (0 : Int)), (qkS none 0 0)], eqs := false }),
 (37, { k := .int .i64, sub := .none, size := 1, bytes := 8, zero := [(qki .i64 (0 : Int))], eqs := false }),
 (39, { k := .agg, sub := (.fields [(0, 37), (1, 3), (2, 33)]), size := 3, bytes := 40, zero := [(qki .i64 (0 : Int)), (qki .i64 (0 : Int)), (qkS none 0 0)], eqs := false }),
 (41, { k := .sl, sub := (.elem 28), size := 1, bytes := 24, zero := [(qkS none 0 0)], eqs := false }),
 (47, { k := .sl, sub := (.elem 3), size := 1, bytes := 24, zero := [(qkS none 0 0)], eqs := false }),
 (49, { k := .sl, sub := (.elem 109), size := 1, bytes := 24, zero := [(qkS none 0 0)], eqs := false }),
 (57, { k := .ptr, sub := (.elem 70), size := 1, bytes := 8, zero := [(qkq none)], eqs := false }),
 (70, { k := .agg, sub := (.fields [(0, 41), (1, 3)]), size := 2, bytes := 32, zero := [(qkS none 0 0), (qki .i64 (0 : Int))], eqs := false }),
 (86, { k := .ptr, sub := (.elem 168), size := 1, bytes := 8, zero := [(qkq none)], eqs := false }),
 (87, { k := .ptr, sub := (.elem 141), size := 1, bytes := 8, zero := [(qkq none)], eqs := false }),
 (88, { k := .ptr, sub := (.elem 150), size := 1, bytes := 8, zero := [(qkq none)], eqs := false }),
 (90, { k := .agg, sub := (.fields [(0, 30), (1, 23), (5, 86), (6, 87), (7, 88), (8, 4)]), size := 9, bytes := 72, zero := [(qkq none), (qki .i64 (0 : Int)), (qki .i64 (0 : Int)), (qki .i64 (0 : Int)), (qki .i64 (0 : Int)), (qkq none), (qkq none), (qkq none), (qlh false)], eqs := false }),
 (92, { k := .agg, sub := (.arr 8 28), size := 8, bytes := 64, zero := [(qki .u64 (0 : Int)), (qki .u64 (0 : Int)), (qki .u64 (0 : Int)), (qki .u64 (0 : Int)), (qki .u64 (0 : Int)), (qki .u64 (0 : Int)), (qki .u64 (0 : Int)), (qki .u64 (0 : Int))], eqs := true }),
 (96, { k := .sl, sub := (.elem 103), size := 1, bytes := 24, zero := [(qkS none 0 0)], eqs := false }),
 (103, { k := .agg, sub := (.fields [(0, 3), (1, 3), (2, 4)]), size := 3, bytes := 24, zero := [(qki .i64 (0 : Int)), (qki .i64 (0 : Int)), (qlh false)], eqs := true }),
 (109, { k := .agg, sub := (.fields [(0, 3), (1, 28)]), size := 2, bytes := 16, zero := [(qki .i64 (0 : Int)), (qki .u64 (0 : Int))], eqs := true }),
 (129, { k := .sl, sub := (.elem 134), size := 1, bytes := 24, zero := [(qkS none 0 0)], eqs := false }),
 (130, { k := .agg, sub := (.arr 35 28), size := 35, bytes := 280, zero := [(qki .u64 (0 : Int)), (qki .u64 (0 : Int)), (qki .u64 (0 : Int)), (qki .u64 (0 : Int)), (qki .u64 (0 : Int)), (qki .u64 (0 : Int)), (qki .u64 (0 : Int)), (qki .u64 (0 : Int)), (qki .u64 (0 : Int)), (qki .u64 (0 : Int)), (qki .u64 (0 : Int)), (qki .u64 (0 : Int)), (qki .u64 (0 : Int)), (qki .u64 (0 : Int)), (qki .u64 (0 : Int)), (qki .u64 (0 : Int)), (qki .u64 (0 : Int)), (qki .u64 (0 : Int)), (qki .u64 (0 : Int)), (qki .u64 (0 : Int)), (qki .u64 (0 : Int)), (qki .u64 (0 : Int)), (qki .u64 (0 : Int)), (qki .u64 (0 : Int)), (qki .u64 (0 : Int)), (qki .u64 (0 : Int)), (qki .u64 (0 : Int)), (qki .u64 (0 : Int)), (qki .u64 (0 : Int)), (qki .u64 (0 : Int)), (qki .u64 (0 : Int)), (qki .u64 (0 : Int)), (qki .u64 (0 : Int)), (qki .u64 (0 : Int)), (qki .u64 (0 : Int))], eqs := true }),
 (132, { k := .agg, sub := (.fields [(0, 129), (1, 130), (36, 3), (37, 3), (38, 3), (39, 4)]), size := 40, bytes := 336, zero := [(qkS none 0 0), (qki .u64 (0 : Int)), (qki .u64 (0 : Int)), (qki .u64 (0 : Int)), (qki .u64 (0 : Int)), (qki .u64 (0 : Int)), (qki .u64 (0 : Int)), (qki .u64 (0 : Int)), (qki .u64 (0 : Int)), (qki .u64 (0 : Int)), (qki .u64 (0 : Int)), (qki .u64 (0 : Int)), (qki .u64 (0 : Int)), (qki .u64 (0 : Int)), (qki .u64 (0 : Int)), (qki .u64 (0 : Int)), (qki .u64 (0 : Int)), (qki .u64 (0 : Int)), (qki .u64 (0 : Int)), (qki .u64 (0 : Int)), (qki .u64 (0 : Int)), (qki .u64 (0 : Int)), (qki .u64 (0 : Int)), (qki .u64 (0 : Int)), (qki .u64 (0 : Int)), (qki .u64 (0 : Int)), (qki .u64 (0 : Int)), (qki .u64 (0 : Int)), (qki .u64 (0 : Int)), (qki .u64 (0 : Int)), (qki .u64 (0 : Int)), (qki .u64 (0 : Int)), (qki .u64 (0 : Int)), (qki .u64 (0 : Int)), (qki .u64 (0 : Int)), (qki .u64 (0 : Int)), (qki .i64 (0 : Int)), (qki .i64 (0 : Int)), (qki .i64 (0 : Int)), (qlh false)], eqs := false }),
 (134, { k := .agg, sub := (.fields [(0, 92), (8, 3), (9, 3)]), size := 10, bytes := 80, zero := [(qki .u64 (0 : Int)), (qki .u64 (0 : Int)), (qki .u64 (0 : Int)), (qki .u64 (0 : Int)), (qki .u64 (0 : Int)), (qki .u64 (0 : Int)), (qki .u64 (0 : Int)), (qki .u64 (0 : Int)), (qki .i64 (0 : Int)), (qki .i64 (0 : Int))], eqs := false }),
 (141, { k := .agg, sub := (.fields [(0, 30), (1, 86)]), size := 2, bytes := 16, zero := [(qkq none), (qkq none)], eqs := false }),
 (142, { k := .sl, sub := (.elem 147), size := 1, bytes := 24, zero := [(qkS none 0 0)], eqs := false }),
 (147, { k := .agg, sub := (.fields [(0, 3), (1, 92)]), size := 9, bytes := 72, zero := [(qki .i64 (0 : Int)), (qki .u64 (0 : Int)), (qki .u64 (0 : Int)), (qki .u64 (0 : Int)), (qki .u64 (0 : Int)), (qki .u64 (0 : Int)), (qki .u64 (0 : Int)), (qki .u64 (0 : Int)), (qki .u64 (0 : Int))], eqs := false }),
 (150, { k := .agg, sub := (.fields [(0, 3), (1, 47), (2, 47)]), size := 3, bytes := 56, zero := [(qki .i64 (0 : Int)), (qkS none 0 0), (qkS none 0 0)], eqs := false }),
 (159, { k := .int .u64, sub := .none, size := 1, bytes := 8, zero := [(qki .u64 (0 : Int))], eqs := false }),
 (166, { k := .ptr, sub := (.elem 184), size := 1, bytes := 8, zero := [(qkq none)], eqs := false }),
 (168, { k := .agg, sub := (.fields [(0, 30), (1, 166), (2, 3), (3, 3), (4, 3)]), size := 5, bytes := 40, zero := [(qkq none), (qkq none), (qki .i64 (0 : Int)), (qki .i64 (0 : Int)), (qki .i64 (0 : Int))], eqs := false }),
 (180, { k := .any, sub := .none, size := 1, bytes := 8, zero := [Value.nilFunc], eqs := false }),
 (184, { k := .agg, sub := (.fields [(0, 30), (1, 3), (2, 3)]), size := 3, bytes := 24, zero := [(qkq none), (qki .i64 (0 : Int)), (qki .i64 (0 : Int))], eqs := false }),
 (193, { k := .sl, sub := (.elem 92), size := 1, bytes := 24, zero := [(qkS none 0 0)], eqs := false }),
 (0, { k := .bad, sub := .tup [], size := 0, bytes := 0, zero := [], eqs := false }),
 (31, { k := .bad, sub := .tup [29, 30], size := 0, bytes := 0, zero := [], eqs := false }),
 (42, { k := .bad, sub := .tup [41, 37], size := 0, bytes := 0, zero := [], eqs := false }),
 (50, { k := .bad, sub := .tup [49, 3, 37], size := 0, bytes := 0, zero := [], eqs := false }),
 (52, { k := .bad, sub := .tup [49, 37], size := 0, bytes := 0, zero := [], eqs := false }),
 (60, { k := .bad, sub := .tup [29, 37], size := 0, bytes := 0, zero := [], eqs := false }),
 (93, { k := .bad, sub := .tup [92, 37], size := 0, bytes := 0, zero := [], eqs := false }),
 (97, { k := .bad, sub := .tup [96, 4], size := 0, bytes := 0, zero := [], eqs := false }),
 (104, { k := .bad, sub := .tup [96, 3, 4], size := 0, bytes := 0, zero := [], eqs := false }),
 (111, { k := .bad, sub := .tup [49, 4], size := 0, bytes := 0, zero := [], eqs := false }),
 (116, { k := .bad, sub := .tup [33, 37], size := 0, bytes := 0, zero := [], eqs := false }),
 (121, { k := .bad, sub := .tup [28, 37], size := 0, bytes := 0, zero := [], eqs := false }),
 (143, { k := .bad, sub := .tup [142, 37], size := 0, bytes := 0, zero := [], eqs := false }),
 (151, { k := .bad, sub := .tup [3, 4, 4], size := 0, bytes := 0, zero := [], eqs := false }),
 (164, { k := .bad, sub := .tup [96, 3], size := 0, bytes := 0, zero := [], eqs := false }),
 (170, { k := .bad, sub := .tup [3, 4], size := 0, bytes := 0, zero := [], eqs := false }),
 (172, { k := .bad, sub := .tup [109, 4], size := 0, bytes := 0, zero := [], eqs := false }),
 (175, { k := .bad, sub := .tup [33, 4], size := 0, bytes := 0, zero := [], eqs := false }),
 (181, { k := .bad, sub := .tup [3, 41, 37], size := 0, bytes := 0, zero := [], eqs := false }),
 (185, { k := .bad, sub := .tup [3, 3], size := 0, bytes := 0, zero := [], eqs := false }),
 (194, { k := .bad, sub := .tup [3, 3, 4], size := 0, bytes := 0, zero := [], eqs := false })]
def T : Nat → TyE := tyLook tyL
theorem hT : qN Tryz.prog T := qjm (by kernel_rfl)
theorem hm : Tryz.prog.follows .mixedOrders = true := by kernel_rfl
def pan (f : Nat) : Bool := ([48, 49, 50, 51, 52, 53, 54, 96, 98, 100, 101] : List Nat).contains f
def log_May (x0 : Int) (x1 : Sl) (H : AH) (k : Bool → AH → Prop) : Prop :=
 qe Tryz.prog 107 [(qki .i64 x0), (Sl.val x1)] H fun e H' => in1 .bool e ql (fun r0 => k r0 H')
def qo (x0 : Option Addr) (x1 : List Value) (H : AH) (k : List Value → AH → Prop) : Prop :=
 qe Tryz.prog 17 [(qkq x0), (qlj (qkP x1))] H fun e H' => in1 .agg e ql (fun r0 => k r0 H')
def qb1 (x0 : Sl) (H : AH) (k : AH → Prop) : Prop :=
 qe Tryz.prog 166 [(Sl.val x0)] H fun e H' => in0  e ql (k H')
def qbG (x0 : Sl) (H : AH) (k : Sl → AH → Prop) : Prop :=
 qe Tryz.prog 167 [(Sl.val x0)] H fun e H' => in1 .sl e ql (fun r0 => k r0 H')
def qn (x0 : Sl) (x1b0 : Option Addr) (x1b1 : Option Addr) (H : AH) (k : Int → AH → Prop) : Prop :=
 qe Tryz.prog 149 [(Sl.val x0), (Value.func (.func 183) #[] #[(qkq x1b0), (qkq x1b1)])] H fun e H' => in1 (.int .i64) e ql (fun r0 => k r0 H')
def qD (x0 : Sl) (x1b0 : Option Addr) (x1b1 : Option Addr) (H : AH) (k : Bool → AH → Prop) : Prop :=
 qe Tryz.prog 182 [(Sl.val x0), (Value.func (.func 183) #[] #[(qkq x1b0), (qkq x1b1)])] H fun e H' => in1 .bool e ql (fun r0 => k r0 H')
def qu (x0 : Sl) (x1b0 : Option Addr) (H : AH) (k : Int → AH → Prop) : Prop :=
 qe Tryz.prog 149 [(Sl.val x0), (Value.func (.func 150) #[] #[(qkq x1b0)])] H fun e H' => in1 (.int .i64) e ql (fun r0 => k r0 H')
def qr (x0 : Sl) (x1 : Sl) (H : AH) (k : Int → AH → Prop) : Prop :=
 qe Tryz.prog 12 [(Sl.val x0), (Sl.val x1)] H fun e H' => in1 (.int .i64) e ql (fun r0 => k r0 H')
def qaT (x0 : List Value) (H : AH) (k : Bool → AH → Prop) : Prop :=
 qe Tryz.prog 88 [(qlj (qkP x0))] H fun e H' => in1 .bool e ql (fun r0 => k r0 H')
def qa8 (x0 : List Value) (H : AH) (k : Int → AH → Prop) : Prop :=
 qe Tryz.prog 89 [(qlj (qkP x0))] H fun e H' => in1 (.int .i64) e ql (fun r0 => k r0 H')
def qaS (x0 : List Value) (H : AH) (k : Int → AH → Prop) : Prop :=
 qe Tryz.prog 32 [(qlj (qkP x0))] H fun e H' => in1 (.int .i64) e ql (fun r0 => k r0 H')
def nvm_New (x0 : Int) (x1 : Sl) (H : AH) (k : Option Addr → AH → Prop) : Prop :=
 qe Tryz.prog 31 [(qki .i64 x0), (Sl.val x1)] H fun e H' => in1 .ptr e ql (fun r0 => k r0 H')
def qE (x0 : Option Addr) (H : AH) (k : Int → AH → Prop) : Prop :=
 qe Tryz.prog 119 [(qkq x0)] H fun e H' => in1 (.int .i64) e ql (fun r0 => k r0 H')
def qW (x0 : Option Addr) (H : AH) (k : Bool → AH → Prop) : Prop :=
 qe Tryz.prog 120 [(qkq x0)] H fun e H' => in1 .bool e ql (fun r0 => k r0 H')
def qaw (x0 : Option Addr) (x1 : List Value) (H : AH) (k : Int → AH → Prop) : Prop :=
 qe Tryz.prog 72 [(qkq x0), (qlj (qkP x1))] H fun e H' => in1 (.int .i64) e ql (fun r0 => k r0 H')
def qao (x0 : Option Addr) (x1 : Int) (H : AH) (k : Bool → AH → Prop) : Prop :=
 qe Tryz.prog 90 [(qkq x0), (qki .i64 x1)] H fun e H' => in1 .bool e ql (fun r0 => k r0 H')
def qB (x0 : Option Addr) (x1 : Int) (H : AH) (k : Int → Int → AH → Prop) : Prop :=
 qe Tryz.prog 76 [(qkq x0), (qki .i64 x1)] H fun e H' => in2 (.int .u64) (.int .i64) e ql (fun r0 r1 => k r0 r1 H')
def qC (x0 : Option Addr) (H : AH) (k : Sl → Int → AH → Prop) : Prop :=
 qe Tryz.prog 160 [(qkq x0)] H fun e H' => in2 .sl (.int .i64) e ql (fun r0 r1 => k r0 r1 H')
def qbC (x0 : Int) (H : AH) (k : Int → AH → Prop) : Prop :=
 qe Tryz.prog 159 [(qki .i64 x0)] H fun e H' => in1 (.int .u64) e ql (fun r0 => k r0 H')
def qaC (x0 : Sl) (x1 : Int) (H : AH) (k : Bool → AH → Prop) : Prop :=
 qe Tryz.prog 174 [(Sl.val x0), (qki .i64 x1)] H fun e H' => in1 .bool e ql (fun r0 => k r0 H')
def qay (x0 : Option Addr) (x1 : Int) (x2 : Int) (H : AH) (k : Option Addr → AH → Prop) : Prop :=
 qe Tryz.prog 147 [(qkq x0), (qki .i64 x1), (qki .i64 x2)] H fun e H' => in1 .ptr e ql (fun r0 => k r0 H')
def qaL (x0 : Option Addr) (x1 : Int) (x2 : Int) (x3 : Int) (H : AH) (k : Option Addr → AH → Prop) : Prop :=
 qe Tryz.prog 121 [(qkq x0), (qki .i64 x1), (qki .i64 x2), (qki .i64 x3)] H fun e H' => in1 .ptr e ql (fun r0 => k r0 H')
def qbi (x0 : Option Addr) (x1 : List Value) (H : AH) (k : Option Addr → AH → Prop) : Prop :=
 qe Tryz.prog 73 [(qkq x0), (qlj (qkP x1))] H fun e H' => in1 .ptr e ql (fun r0 => k r0 H')
def qbV (x0 : List Value) (H : AH) (k : Int → AH → Prop) : Prop :=
 qe Tryz.prog 84 [(qlj (qkP x0))] H fun e H' => in1 (.int .i64) e ql (fun r0 => k r0 H')
def qaM (x0 : Int) (H : AH) (k : Bool → AH → Prop) : Prop :=
 qe Tryz.prog 126 [(qki .i64 x0)] H fun e H' => in1 .bool e ql (fun r0 => k r0 H')
def qaV (x0 : Int) (H : AH) (k : Bool → AH → Prop) : Prop :=
 qe Tryz.prog 148 [(qki .i64 x0)] H fun e H' => in1 .bool e ql (fun r0 => k r0 H')
def qbj (x0 : Int) (x1 : Bool) (H : AH) (k : Int → AH → Prop) : Prop :=
 qe Tryz.prog 127 [(qki .i64 x0), (qlh x1)] H fun e H' => in1 (.int .u64) e ql (fun r0 => k r0 H')
def qbK (x0 : Int) (H : AH) (k : Sl → AH → Prop) : Prop :=
 qe Tryz.prog 83 [(qki .i64 x0)] H fun e H' => in1 .sl e ql (fun r0 => k r0 H')
def qa3 (x0 : List Value) (x1 : Int) (H : AH) (k : Int → AH → Prop) : Prop :=
 qe Tryz.prog 56 [(qlj (qkP x0)), (qki .i64 x1)] H fun e H' => in1 (.int .i64) e ql (fun r0 => k r0 H')
def qaE (x0 : Option Addr) (x1 : Int) (H : AH) (k : Int → AH → Prop) : Prop :=
 qe Tryz.prog 128 [(qkq x0), (qki .i64 x1)] H fun e H' => in1 (.int .i64) e ql (fun r0 => k r0 H')
def qaO (x0 : Option Addr) (H : AH) (k : Int → AH → Prop) : Prop :=
 qe Tryz.prog 82 [(qkq x0)] H fun e H' => in1 (.int .i64) e ql (fun r0 => k r0 H')
def gap_may (x0 : Int) (x1 : Int) (H : AH) (k : Bool → AH → Prop) : Prop :=
 qe Tryz.prog 153 [(qki .i64 x0), (qki .i64 x1)] H fun e H' => in1 .bool e ql (fun r0 => k r0 H')
def qbY (x0 : Int) (x1 : Int) (H : AH) (k : Int → AH → Prop) : Prop :=
 qe Tryz.prog 154 [(qki .i64 x0), (qki .i64 x1)] H fun e H' => in1 (.int .i64) e ql (fun r0 => k r0 H')
def gap_Gap (x0 : Int) (x1 : Int) (H : AH) (k : Int → AH → Prop) : Prop :=
 qe Tryz.prog 155 [(qki .i64 x0), (qki .i64 x1)] H fun e H' => in1 (.int .i64) e ql (fun r0 => k r0 H')
def qbn (x0 : Int) (x1 : Int) (x2 : Int) (H : AH) (k : Int → AH → Prop) : Prop :=
 qe Tryz.prog 130 [(qki .i64 x0), (qki .i64 x1), (qki .i64 x2)] H fun e H' => in1 (.int .i64) e ql (fun r0 => k r0 H')
def qal (x0 : Sl) (x1 : Int) (x2 : Int) (H : AH) (k : Int → AH → Prop) : Prop :=
 qe Tryz.prog 175 [(Sl.val x0), (qki .i64 x1), (qki .i64 x2)] H fun e H' => in1 (.int .i64) e ql (fun r0 => k r0 H')
def qab (x0 : Option Addr) (x1 : Int) (H : AH) (k : Int → Sl → Int → AH → Prop) : Prop :=
 qe Tryz.prog 151 [(qkq x0), (qki .i64 x1)] H fun e H' => in3 (.int .i64) .sl (.int .i64) e ql (fun r0 r1 r2 => k r0 r1 r2 H')
def qaN (x0 : Option Addr) (x1 : Int) (H : AH) (k : Bool → AH → Prop) : Prop :=
 qe Tryz.prog 176 [(qkq x0), (qki .i64 x1)] H fun e H' => in1 .bool e ql (fun r0 => k r0 H')
def qa9 (x0 : Option Addr) (x1 : Int) (H : AH) (k : List Value → Int → AH → Prop) : Prop :=
 qe Tryz.prog 152 [(qkq x0), (qki .i64 x1)] H fun e H' => in2 .agg (.int .i64) e ql (fun r0 r1 => k r0 r1 H')
def qbg (x0 : Option Addr) (x1 : Int) (H : AH) (k : List Value → Int → AH → Prop) : Prop :=
 qe Tryz.prog 129 [(qkq x0), (qki .i64 x1)] H fun e H' => in2 .agg (.int .i64) e ql (fun r0 r1 => k r0 r1 H')
def qaF (x0 : Option Addr) (x1 : Int) (H : AH) (k : List Value → Int → AH → Prop) : Prop :=
 qe Tryz.prog 85 [(qkq x0), (qki .i64 x1)] H fun e H' => in2 .agg (.int .i64) e ql (fun r0 r1 => k r0 r1 H')
def qaX (x0 : Sl) (x1 : Int) (H : AH) (k : List Value → AH → Prop) : Prop :=
 qe Tryz.prog 86 [(Sl.val x0), (qki .i64 x1)] H fun e H' => in1 .agg e ql (fun r0 => k r0 H')
def qcg (x0 : Int) (x1 : Int) (H : AH) (k : Int → Int → AH → Prop) : Prop :=
 qe Tryz.prog 156 [(qki .i64 x0), (qki .i64 x1)] H fun e H' => in2 (.int .i64) (.int .i64) e ql (fun r0 r1 => k r0 r1 H')
def qav (x0 : Option Addr) (H : AH) (k : Int → AH → Prop) : Prop :=
 qe Tryz.prog 91 [(qkq x0)] H fun e H' => in1 (.int .i64) e ql (fun r0 => k r0 H')
def qbd (x0 : List Value) (x1 : List Value) (x2 : Int) (H : AH) (k : List Value → AH → Prop) : Prop :=
 qe Tryz.prog 177 [(qlj (qkP x0)), (qlj (qkP x1)), (qki .i64 x2)] H fun e H' => in1 .agg e ql (fun r0 => k r0 H')
def qan (x0 : Option Addr) (x1 : Bool) (H : AH) (k : Int → AH → Prop) : Prop :=
 qe Tryz.prog 92 [(qkq x0), (qlh x1)] H fun e H' => in1 (.int .i64) e ql (fun r0 => k r0 H')
def qI (x0 : Option Addr) (x1 : Int) (x2 : List Value) (H : AH) (k : Int → AH → Prop) : Prop :=
 qe Tryz.prog 157 [(qkq x0), (qki .i64 x1), (qlj (qkP x2))] H fun e H' => in1 (.int .i64) e ql (fun r0 => k r0 H')
def qa5 (x0 : Sl) (H : AH) (k : Int → AH → Prop) : Prop :=
 qe Tryz.prog 158 [(Sl.val x0)] H fun e H' => in1 (.int .i64) e ql (fun r0 => k r0 H')
def qA (x0 : Option Addr) (x1 : Int) (x2 : Int) (H : AH) (k : Int → AH → Prop) : Prop :=
 qe Tryz.prog 41 [(qkq x0), (qki .i64 x1), (qki .u64 x2)] H fun e H' => in1 (.int .i64) e ql (fun r0 => k r0 H')
def qah (x0 : Option Addr) (x1 : Int) (x2 : List Value) (H : AH) (k : Int → AH → Prop) : Prop :=
 qe Tryz.prog 132 [(qkq x0), (qki .i64 x1), (qlj (qkP x2))] H fun e H' => in1 (.int .i64) e ql (fun r0 => k r0 H')
def qbb (x0 : Option Addr) (H : AH) (k : Int → AH → Prop) : Prop :=
 qe Tryz.prog 131 [(qkq x0)] H fun e H' => in1 (.int .i64) e ql (fun r0 => k r0 H')
def qak (x0 : Option Addr) (x1 : Int) (x2 : List Value) (H : AH) (k : Int → AH → Prop) : Prop :=
 qe Tryz.prog 87 [(qkq x0), (qki .i64 x1), (qlj (qkP x2))] H fun e H' => in1 (.int .i64) e ql (fun r0 => k r0 H')
def qv (x0 : Option Addr) (x1 : List Value) (H : AH) (k : Int → AH → Prop) : Prop :=
 qe Tryz.prog 30 [(qkq x0), (qlj (qkP x1))] H fun e H' => in1 (.int .i64) e ql (fun r0 => k r0 H')
def qar (x0 : Option Addr) (H : AH) (k : Int → AH → Prop) : Prop :=
 qe Tryz.prog 105 [(qkq x0)] H fun e H' => in1 (.int .i64) e ql (fun r0 => k r0 H')
def log_New (x0 : Option Addr) (x1 : Option Addr) (H : AH) (k : Option Addr → AH → Prop) : Prop :=
 qe Tryz.prog 74 [(qkq x0), (qkq x1)] H fun e H' => in1 .ptr e ql (fun r0 => k r0 H')
def qbQ (x0 : Int) (H : AH) (k : Int → AH → Prop) : Prop :=
 qe Tryz.prog 145 [(qki .i64 x0)] H fun e H' => in1 (.int .i64) e ql (fun r0 => k r0 H')
def qZ (x0 : Option Addr) (H : AH) (k : Sl → Int → AH → Prop) : Prop :=
 qe Tryz.prog 106 [(qkq x0)] H fun e H' => in2 .sl (.int .i64) e ql (fun r0 r1 => k r0 r1 H')
def qad (x0 : Option Addr) (x1 : Sl) (H : AH) (k : Int → AH → Prop) : Prop :=
 qe Tryz.prog 122 [(qkq x0), (Sl.val x1)] H fun e H' => in1 (.int .i64) e ql (fun r0 => k r0 H')
def qbx (x0 : Option Addr) (H : AH) (k : Int → AH → Prop) : Prop :=
 qe Tryz.prog 75 [(qkq x0)] H fun e H' => in1 (.int .i64) e ql (fun r0 => k r0 H')
def qX (x0 : Option Addr) (x1 : Int) (H : AH) (k : List Value → Int → AH → Prop) : Prop :=
 qe Tryz.prog 55 [(qkq x0), (qki .i64 x1)] H fun e H' => in2 .agg (.int .i64) e ql (fun r0 r1 => k r0 r1 H')
def qG (x0 : Option Addr) (H : AH) (k : Sl → Int → AH → Prop) : Prop :=
 qe Tryz.prog 18 [(qkq x0)] H fun e H' => in2 .sl (.int .i64) e ql (fun r0 r1 => k r0 r1 H')
def qaZ (x0 : Int) (H : AH) (k : Int → Bool → Bool → AH → Prop) : Prop :=
 qe Tryz.prog 123 [(qki .u64 x0)] H fun e H' => in3 (.int .i64) .bool .bool e ql (fun r0 r1 r2 => k r0 r1 r2 H')
def qR (x0 : Sl) (x1 : Int) (H : AH) (k : Bool → AH → Prop) : Prop :=
 qe Tryz.prog 124 [(Sl.val x0), (qki .i64 x1)] H fun e H' => in1 .bool e ql (fun r0 => k r0 H')
def qJ (x0 : Sl) (H : AH) (k : Sl → Bool → AH → Prop) : Prop :=
 qe Tryz.prog 77 [(Sl.val x0)] H fun e H' => in2 .sl .bool e ql (fun r0 r1 => k r0 r1 H')
def qaW (x0 : List Value) (H : AH) (k : Int → AH → Prop) : Prop :=
 qe Tryz.prog 136 [(qlj (qkP x0))] H fun e H' => in1 (.int .i64) e ql (fun r0 => k r0 H')
def qa7 (x0 : List Value) (x1 : Option Addr) (H : AH) (k : Bool → AH → Prop) : Prop :=
 qe Tryz.prog 150 [(qlj (qkP x0)), (qkq x1)] H fun e H' => in1 .bool e ql (fun r0 => k r0 H')
def qbE (x0 : Sl) (x1 : Int) (H : AH) (k : Sl → Int → AH → Prop) : Prop :=
 qe Tryz.prog 125 [(Sl.val x0), (qki .i64 x1)] H fun e H' => in2 .sl (.int .i64) e ql (fun r0 r1 => k r0 r1 H')
def qbT (x0 : Sl) (x1 : Int) (H : AH) (k : Bool → AH → Prop) : Prop :=
 qe Tryz.prog 78 [(Sl.val x0), (qki .i64 x1)] H fun e H' => in1 .bool e ql (fun r0 => k r0 H')
def qbO (x0 : Int) (H : AH) (k : Int → AH → Prop) : Prop :=
 qe Tryz.prog 95 [(qki .i64 x0)] H fun e H' => in1 (.int .i64) e ql (fun r0 => k r0 H')
def qbW (x0 : List Value) (H : AH) (k : Int → AH → Prop) : Prop :=
 qe Tryz.prog 45 [(qlj (qkP x0))] H fun e H' => in1 (.int .i64) e ql (fun r0 => k r0 H')
def qaJ (x0 : Int) (x1 : Sl) (H : AH) (k : Option Addr → AH → Prop) : Prop :=
 qe Tryz.prog 79 [(qki .i64 x0), (Sl.val x1)] H fun e H' => in1 .ptr e ql (fun r0 => k r0 H')
def qS (x0 : Option Addr) (x1 : List Value) (H : AH) (k : Option Addr → Int → AH → Prop) : Prop :=
 qe Tryz.prog 27 [(qkq x0), (qlj (qkP x1))] H fun e H' => in2 .ptr (.int .i64) e ql (fun r0 r1 => k r0 r1 H')
def qaz (x0 : List Value) (x1 : Sl) (H : AH) (k : Option Addr → Option Addr → AH → Prop) : Prop :=
 qe Tryz.prog 15 [(qlj (qkP x0)), (Sl.val x1)] H fun e H' => in2 .ptr .ptr e ql (fun r0 r1 => k r0 r1 H')
def qbl (x0 : Option Addr) (H : AH) (k : Bool → AH → Prop) : Prop :=
 qe Tryz.prog 94 [(qkq x0)] H fun e H' => in1 .bool e ql (fun r0 => k r0 H')
def qaD (x0 : Option Addr) (H : AH) (k : Bool → AH → Prop) : Prop :=
 qe Tryz.prog 44 [(qkq x0)] H fun e H' => in1 .bool e ql (fun r0 => k r0 H')
def qat (x0 : Sl) (H : AH) (k : Sl → AH → Prop) : Prop :=
 qe Tryz.prog 108 [(Sl.val x0)] H fun e H' => in1 .sl e ql (fun r0 => k r0 H')
def qbk (x0 : Option Addr) (H : AH) (k : Sl → AH → Prop) : Prop :=
 qe Tryz.prog 57 [(qkq x0)] H fun e H' => in1 .sl e ql (fun r0 => k r0 H')
def qax (x0 : Option Addr) (H : AH) (k : Sl → AH → Prop) : Prop :=
 qe Tryz.prog 20 [(qkq x0)] H fun e H' => in1 .sl e ql (fun r0 => k r0 H')
def qaQ  (H : AH) (k : Bool → AH → Prop) : Prop :=
 qe Tryz.prog 13 [] H fun e H' => in1 .bool e ql (fun r0 => k r0 H')
def qau (x0 : List Value) (x1 : List Value) (H : AH) (k : Bool → AH → Prop) : Prop :=
 qe Tryz.prog 16 [(qlj (qkP x0)), (qlj (qkP x1))] H fun e H' => in1 .bool e ql (fun r0 => k r0 H')
def qeB (x0 : Sl) (x1 : Int) (x2 : Int) (H : AH) (k : Sl → Bool → AH → Prop) : Prop :=
 qe Tryz.prog 113 [(Sl.val x0), (qki .i64 x1), (qki .i64 x2)] H fun e H' => in2 .sl .bool e ql (fun r0 r1 => k r0 r1 H')
def qeq (x0 : Sl) (x1 : Int) (H : AH) (k : Sl → Int → Bool → AH → Prop) : Prop :=
 qe Tryz.prog 63 [(Sl.val x0), (qki .i64 x1)] H fun e H' => in3 .sl (.int .i64) .bool e ql (fun r0 r1 r2 => k r0 r1 r2 H')
def qdU (x0 : Sl) (H : AH) (k : Sl → AH → Prop) : Prop :=
 qe Tryz.prog 24 [(Sl.val x0)] H fun e H' => in1 .sl e ql (fun r0 => k r0 H')
def qbw (x0 : Option Addr) (H : AH) (k : Int → AH → Prop) : Prop :=
 qe Tryz.prog 29 [(qkq x0)] H fun e H' => in1 (.int .i64) e ql (fun r0 => k r0 H')
def qfZ (x0 : Option Addr) (H : AH) (k : Int → AH → Prop) : Prop :=
 qe Tryz.prog 93 [(qkq x0)] H fun e H' => in1 (.int .i64) e ql (fun r0 => k r0 H')
def qbH (x0 : Option Addr) (H : AH) (k : Int → AH → Prop) : Prop :=
 qe Tryz.prog 43 [(qkq x0)] H fun e H' => in1 (.int .i64) e ql (fun r0 => k r0 H')
def qae (x0 : List Value) (H : AH) (k : Bool → AH → Prop) : Prop :=
 qe Tryz.prog 46 [(qlj (qkP x0))] H fun e H' => in1 .bool e ql (fun r0 => k r0 H')
def qaB (x0 : List Value) (H : AH) (k : Int → AH → Prop) : Prop :=
 qe Tryz.prog 47 [(qlj (qkP x0))] H fun e H' => in1 (.int .i64) e ql (fun r0 => k r0 H')
def qM (x0 : List Value) (x1 : List Value) (H : AH) (k : Bool → AH → Prop) : Prop :=
 qe Tryz.prog 11 [(qlj (qkP x0)), (qlj (qkP x1))] H fun e H' => in1 .bool e ql (fun r0 => k r0 H')
def qY (x0 : Int) (H : AH) (pk : Value → AH → Prop) (k : AH → Prop) : Prop :=
 qe Tryz.prog 100 [(qki .i64 x0)] H fun e H' => in0  e (fun v => pk v H') (k H')
def qaG (x0 : Option Addr) (H : AH) (pk : Value → AH → Prop) (k : Sl → AH → Prop) : Prop :=
 qe Tryz.prog 96 [(qkq x0)] H fun e H' => in1 .sl e (fun v => pk v H') (fun r0 => k r0 H')
def qbt (x0 : Int) (H : AH) (k : Int → AH → Prop) : Prop :=
 qe Tryz.prog 97 [(qki .i64 x0)] H fun e H' => in1 (.int .i64) e ql (fun r0 => k r0 H')
def qaf (x0 : Option Addr) (H : AH) (pk : Value → AH → Prop) (k : AH → Prop) : Prop :=
 qe Tryz.prog 98 [(qkq x0)] H fun e H' => in0  e (fun v => pk v H') (k H')
def qQ (x0 : Sl) (x1 : Int) (H : AH) (k : Sl → AH → Prop) : Prop :=
 qe Tryz.prog 162 [(Sl.val x0), (qki .i64 x1)] H fun e H' => in1 .sl e ql (fun r0 => k r0 H')
def qbc (x0 : List Value) (x1 : Sl) (H : AH) (k : Int → AH → Prop) : Prop :=
 qe Tryz.prog 163 [(qlj (qkP x0)), (Sl.val x1)] H fun e H' => in1 (.int .i64) e ql (fun r0 => k r0 H')
def qap (x0 : Sl) (x1 : Int) (x2 : Sl) (H : AH) (k : Int → AH → Prop) : Prop :=
 qe Tryz.prog 134 [(Sl.val x0), (qki .i64 x1), (Sl.val x2)] H fun e H' => in1 (.int .i64) e ql (fun r0 => k r0 H')
def qaq (x0 : Sl) (H : AH) (k : Int → AH → Prop) : Prop :=
 qe Tryz.prog 178 [(Sl.val x0)] H fun e H' => in1 (.int .i64) e ql (fun r0 => k r0 H')
def qby (x0 : Int) (x1 : Int) (H : AH) (k : Int → AH → Prop) : Prop :=
 qe Tryz.prog 179 [(qki .i64 x0), (qki .i64 x1)] H fun e H' => in1 (.int .i64) e ql (fun r0 => k r0 H')
def qaK (x0 : Sl) (x1 : Int) (x2 : Int) (H : AH) (k : Sl → AH → Prop) : Prop :=
 qe Tryz.prog 164 [(Sl.val x0), (qki .i64 x1), (qki .i64 x2)] H fun e H' => in1 .sl e ql (fun r0 => k r0 H')
def qT (x0 : Sl) (x1 : Int) (x2 : Int) (H : AH) (k : Sl → AH → Prop) : Prop :=
 qe Tryz.prog 135 [(Sl.val x0), (qki .i64 x1), (qki .i64 x2)] H fun e H' => in1 .sl e ql (fun r0 => k r0 H')
def qbo (x0 : Sl) (x1 : Int) (x2 : Sl) (H : AH) (k : Sl → Int → Int → AH → Prop) : Prop :=
 qe Tryz.prog 99 [(Sl.val x0), (qki .i64 x1), (Sl.val x2)] H fun e H' => in3 .sl (.int .i64) (.int .i64) e ql (fun r0 r1 r2 => k r0 r1 r2 H')
def qU (x0 : Sl) (H : AH) (k : Sl → AH → Prop) : Prop :=
 qe Tryz.prog 165 [(Sl.val x0)] H fun e H' => in1 .sl e ql (fun r0 => k r0 H')
def qaA (x0 : Sl) (x1 : Sl) (H : AH) (k : Sl → AH → Prop) : Prop :=
 qe Tryz.prog 137 [(Sl.val x0), (Sl.val x1)] H fun e H' => in1 .sl e ql (fun r0 => k r0 H')
def qas (x0 : Sl) (H : AH) (k : Sl → AH → Prop) : Prop :=
 qe Tryz.prog 138 [(Sl.val x0)] H fun e H' => in1 .sl e ql (fun r0 => k r0 H')
def qK (x0 : Option Addr) (x1 : Sl) (H : AH) (k : Int → AH → Prop) : Prop :=
 qe Tryz.prog 139 [(qkq x0), (Sl.val x1)] H fun e H' => in1 (.int .i64) e ql (fun r0 => k r0 H')
def qbh (x0 : Option Addr) (x1 : Int) (H : AH) (k : Bool → AH → Prop) : Prop :=
 qe Tryz.prog 168 [(qkq x0), (qki .i64 x1)] H fun e H' => in1 .bool e ql (fun r0 => k r0 H')
def qa1 (x0 : Option Addr) (x1 : Int) (H : AH) (k : Int → AH → Prop) : Prop :=
 qe Tryz.prog 169 [(qkq x0), (qki .i64 x1)] H fun e H' => in1 (.int .i64) e ql (fun r0 => k r0 H')
def qaa (x0 : Option Addr) (x1 : Int) (H : AH) (k : Int → Bool → AH → Prop) : Prop :=
 qe Tryz.prog 140 [(qkq x0), (qki .i64 x1)] H fun e H' => in2 (.int .i64) .bool e ql (fun r0 r1 => k r0 r1 H')
def qz (x0 : Option Addr) (x1 : Sl) (x2 : Sl) (H : AH) (pk : Value → AH → Prop) (k : AH → Prop) : Prop :=
 qe Tryz.prog 101 [(qkq x0), (Sl.val x1), (Sl.val x2)] H fun e H' => in0  e (fun v => pk v H') (k H')
def qbv (x0 : Option Addr) (x1 : Int) (H : AH) (pk : Value → AH → Prop) (k : Int → AH → Prop) : Prop :=
 qe Tryz.prog 49 [(qkq x0), (qki .i64 x1)] H fun e H' => in1 (.int .i64) e (fun v => pk v H') (fun r0 => k r0 H')
def qac (x0 : Sl) (H : AH) (k : Int → AH → Prop) : Prop :=
 qe Tryz.prog 171 [(Sl.val x0)] H fun e H' => in1 (.int .i64) e ql (fun r0 => k r0 H')
def qx (x0 : Sl) (x1 : Int) (H : AH) (k : Int → Int → Bool → AH → Prop) : Prop :=
 qe Tryz.prog 170 [(Sl.val x0), (qki .i64 x1)] H fun e H' => in3 (.int .i64) (.int .i64) .bool e ql (fun r0 r1 r2 => k r0 r1 r2 H')
def qaP (x0 : Sl) (x1 : Int) (H : AH) (k : List Value → Bool → AH → Prop) : Prop :=
 qe Tryz.prog 141 [(Sl.val x0), (qki .i64 x1)] H fun e H' => in2 .agg .bool e ql (fun r0 r1 => k r0 r1 H')
def qbX (x0 : Sl) (x1 : Int) (H : AH) (k : Sl → Int → AH → Prop) : Prop :=
 qe Tryz.prog 102 [(Sl.val x0), (qki .i64 x1)] H fun e H' => in2 .sl (.int .i64) e ql (fun r0 r1 => k r0 r1 H')
def qba (x0 : Option Addr) (H : AH) (pk : Value → AH → Prop) (k : Int → AH → Prop) : Prop :=
 qe Tryz.prog 54 [(qkq x0)] H fun e H' => in1 (.int .i64) e (fun v => pk v H') (fun r0 => k r0 H')
def qbF (x0 : Option Addr) (x1 : Int) (H : AH) (pk : Value → AH → Prop) (k : AH → Prop) : Prop :=
 qe Tryz.prog 50 [(qkq x0), (qki .i64 x1)] H fun e H' => in0  e (fun v => pk v H') (k H')
def qaY (x0 : List Value) (x1 : Option Addr) (x2 : Option Addr) (H : AH) (k : Bool → AH → Prop) : Prop :=
 qe Tryz.prog 183 [(qlj (qkP x0)), (qkq x1), (qkq x2)] H fun e H' => in1 .bool e ql (fun r0 => k r0 H')
def qa0 (x0 : Sl) (x1 : Int) (x2 : Int) (H : AH) (k : Bool → AH → Prop) : Prop :=
 qe Tryz.prog 172 [(Sl.val x0), (qki .i64 x1), (qki .i64 x2)] H fun e H' => in1 .bool e ql (fun r0 => k r0 H')
def qbq (x0 : Sl) (x1 : Int) (x2 : Int) (H : AH) (k : Int → AH → Prop) : Prop :=
 qe Tryz.prog 142 [(Sl.val x0), (qki .i64 x1), (qki .i64 x2)] H fun e H' => in1 (.int .i64) e ql (fun r0 => k r0 H')
def qbp (x0 : Sl) (x1 : Int) (x2 : Int) (H : AH) (k : Bool → AH → Prop) : Prop :=
 qe Tryz.prog 173 [(Sl.val x0), (qki .i64 x1), (qki .i64 x2)] H fun e H' => in1 .bool e ql (fun r0 => k r0 H')
def qbm (x0 : Sl) (x1 : Int) (x2 : Int) (H : AH) (k : Sl → Bool → AH → Prop) : Prop :=
 qe Tryz.prog 143 [(Sl.val x0), (qki .i64 x1), (qki .i64 x2)] H fun e H' => in2 .sl .bool e ql (fun r0 r1 => k r0 r1 H')
def qbZ (x0 : Sl) (x1 : Int) (x2 : Int) (H : AH) (k : Sl → Int → AH → Prop) : Prop :=
 qe Tryz.prog 103 [(Sl.val x0), (qki .i64 x1), (qki .i64 x2)] H fun e H' => in2 .sl (.int .i64) e ql (fun r0 r1 => k r0 r1 H')
def qbI (x0 : Option Addr) (x1 : Int) (x2 : Int) (H : AH) (pk : Value → AH → Prop) (k : Sl → AH → Prop) : Prop :=
 qe Tryz.prog 51 [(qkq x0), (qki .i64 x1), (qki .i64 x2)] H fun e H' => in1 .sl e (fun v => pk v H') (fun r0 => k r0 H')
def qV (x0 : Sl) (x1 : Int) (x2 : Sl) (H : AH) (k : Sl → Bool → AH → Prop) : Prop :=
 qe Tryz.prog 144 [(Sl.val x0), (qki .i64 x1), (Sl.val x2)] H fun e H' => in2 .sl .bool e ql (fun r0 r1 => k r0 r1 H')
def qbL (x0 : Sl) (x1 : Int) (x2 : Sl) (H : AH) (k : Sl → Int → AH → Prop) : Prop :=
 qe Tryz.prog 104 [(Sl.val x0), (qki .i64 x1), (Sl.val x2)] H fun e H' => in2 .sl (.int .i64) e ql (fun r0 r1 => k r0 r1 H')
def qbu (x0 : Option Addr) (x1 : Int) (x2 : Sl) (H : AH) (pk : Value → AH → Prop) (k : AH → Prop) : Prop :=
 qe Tryz.prog 52 [(qkq x0), (qki .i64 x1), (Sl.val x2)] H fun e H' => in0  e (fun v => pk v H') (k H')
def qai (x0 : Option Addr) (x1 : Int) (H : AH) (pk : Value → AH → Prop) (k : AH → Prop) : Prop :=
 qe Tryz.prog 53 [(qkq x0), (qki .i64 x1)] H fun e H' => in0  e (fun v => pk v H') (k H')
def qn.l1 (x0 : Sl) (x1b0 : Option Addr) (x1b1 : Option Addr) (k : Int → AH → Prop) (t2 : Int × Int) (HL2 : AH) (it2 : (Int × Int) → AH → Prop) : Prop :=
 bcase (decide ((t2.2 : Int) < ((x0.n : Nat) : Int))) ((0 ≤ t2.2 ∧ t2.2 < ((x0.n : Nat) : Int)) ∧ onPtr x0.a fun a14 => ldA HL2 (qkm a14 (qku t2.2 * 3)) 3 fun c15 => qaY c15 x1b0 x1b1 HL2 fun b16 H16 => bcase b16 (k t2.2 H16) (it2 (t2.1, (qkl .i64 (t2.2 + (1 : Int)))) H16)) (k (-1 : Int) HL2)
def qn.b (x0 : Sl) (x1b0 : Option Addr) (x1b1 : Option Addr) (H : AH) (k : Int → AH → Prop) : Prop :=
 loopT (qn.l1 x0 x1b0 x1b1 k) (((0 : Int), (0 : Int)) : Int × Int) H
def qn.ann : Ann := { keep := fun r => match r with | 2 => [(4, .int .i64), (8, .int .i64)] | _ => [], ord := fun r => match r with  | _ => [] }
theorem qn.link {x0 : Sl} {x1b0 : Option Addr} {x1b1 : Option Addr} {H : AH} {k : Int → AH → Prop} (h : qn.b x0 x1b0 x1b1 H k) : qn x0 x1b0 x1b1 H k := lk1 pan hT hm Tryz.func149 (by kernel_rfl) (A := qn.ann) (by kernel_rfl) (by simp) (by kernel_rfl) h
def qD.b (x0 : Sl) (x1b0 : Option Addr) (x1b1 : Option Addr) (H : AH) (k : Bool → AH → Prop) : Prop :=
 qn x0 x1b0 x1b1 H fun n7 H7 => k (decide ((n7 : Int) ≥ (0 : Int))) H7
theorem qD.link {x0 : Sl} {x1b0 : Option Addr} {x1b1 : Option Addr} {H : AH} {k : Bool → AH → Prop} (h : qD.b x0 x1b0 x1b1 H k) : qD x0 x1b0 x1b1 H k := lk1 pan hT hm Tryz.func182 (by kernel_rfl) (A := ann0) (by kernel_rfl) (by simp) (by kernel_rfl) h
def qu.l1 (x0 : Sl) (x1b0 : Option Addr) (k : Int → AH → Prop) (t2 : Int × Int) (HL2 : AH) (it2 : (Int × Int) → AH → Prop) : Prop :=
 bcase (decide ((t2.2 : Int) < ((x0.n : Nat) : Int))) ((0 ≤ t2.2 ∧ t2.2 < ((x0.n : Nat) : Int)) ∧ onPtr x0.a fun a14 => ldA HL2 (qkm a14 (qku t2.2 * 3)) 3 fun c15 => qa7 c15 x1b0 HL2 fun b16 H16 => bcase b16 (k t2.2 H16) (it2 (t2.1, (qkl .i64 (t2.2 + (1 : Int)))) H16)) (k (-1 : Int) HL2)
def qu.b (x0 : Sl) (x1b0 : Option Addr) (H : AH) (k : Int → AH → Prop) : Prop :=
 loopT (qu.l1 x0 x1b0 k) (((0 : Int), (0 : Int)) : Int × Int) H
def qu.ann : Ann := { keep := fun r => match r with | 2 => [(4, .int .i64), (8, .int .i64)] | _ => [], ord := fun r => match r with  | _ => [] }
theorem qu.link {x0 : Sl} {x1b0 : Option Addr} {H : AH} {k : Int → AH → Prop} (h : qu.b x0 x1b0 H k) : qu x0 x1b0 H k := lk1 pan hT hm Tryz.func149 (by kernel_rfl) (A := qu.ann) (by kernel_rfl) (by simp) (by kernel_rfl) h
def qr.j1 (k : Int → AH → Prop) (t4 : Int × Int) (it4 : (Int × Int) → AH → Prop) (Hs2 : AH) (x24 : Bool) : Prop :=
 bcase x24 (k (qkl .i64 (t4.2 + (1 : Int))) Hs2) (it4 (t4.1, (qkl .i64 (t4.2 + (1 : Int)))) Hs2)
def qr.l2 (x0 : Sl) (k : Int → AH → Prop) (t4 : Int × Int) (HL4 : AH) (it4 : (Int × Int) → AH → Prop) : Prop :=
 bcase (decide ((t4.2 : Int) < ((x0.n : Nat) : Int))) ((0 ≤ t4.2 ∧ t4.2 < ((x0.n : Nat) : Int)) ∧ onPtr x0.a fun a15 => ldA HL4 (qkm a15 (qku t4.2 * 5)) 5 fun c16 => newC HL4 ⟨[(qki .i64 (0 : Int)), (qki .i64 (0 : Int)), (qki .i64 (0 : Int)), (qki .i64 (0 : Int)), (qkS none 0 0)], .rw, 0⟩ fun o6 H6 => (qkx c16 = 5 ∧ qk7 c16 qq = true) ∧ stC H6 ⟨o6, 0, none⟩ c16 fun Hs2 => bcase (decide ((t4.2 : Int) ≥ (80 : Int))) (qr.j1 k t4 it4 Hs2 true) (elL (AH.cell? Hs2 (qkm ⟨o6, 0, none⟩ 4)) fun s21 => qr.j1 k t4 it4 Hs2 (decide ((((s21.n : Nat) : Int) : Int) > (500 : Int))))) (k (0 : Int) HL4)
def qr.b (x0 : Sl) (x1 : Sl) (H : AH) (k : Int → AH → Prop) : Prop :=
 bcase (decide ((((x1.n : Nat) : Int) : Int) > (200 : Int))) (k (1 : Int) H) (loopT (qr.l2 x0 k) (((0 : Int), (0 : Int)) : Int × Int) H)
def qr.ann : Ann := { keep := fun r => match r with | 4 => [(4, .int .i64), (12, .int .i64)] | _ => [], ord := fun r => match r with  | _ => [] }
theorem qr.link {x0 : Sl} {x1 : Sl} {H : AH} {k : Int → AH → Prop} (h : qr.b x0 x1 H k) : qr x0 x1 H k := lk1 pan hT hm Tryz.func12 (by kernel_rfl) (A := qr.ann) (by kernel_rfl) (by simp) (by kernel_rfl) h
def qaT.b (x0 : List Value) (H : AH) (k : Bool → AH → Prop) : Prop :=
 newC H ⟨x0, .rw, 0⟩ fun o1 H1 => elI .i64 (AH.cell? H1 (qkm ⟨o1, 0, none⟩ 0)) fun n4 => bcase (decide ((n4 : Int) ≥ (1 : Int))) (elI .i64 (AH.cell? H1 (qkm ⟨o1, 0, none⟩ 0)) fun n8 => bcase (decide ((n8 : Int) ≤ (64 : Int))) (elI .i64 (AH.cell? H1 (qkm ⟨o1, 0, none⟩ 1)) fun n13 => bcase (decide ((n13 : Int) ≥ (0 : Int))) (elI .i64 (AH.cell? H1 (qkm ⟨o1, 0, none⟩ 1)) fun n18 => bcase (decide ((n18 : Int) ≤ (16 : Int))) (elI .i64 (AH.cell? H1 (qkm ⟨o1, 0, none⟩ 2)) fun n23 => bcase (decide ((n23 : Int) ≥ (1 : Int))) (elI .i64 (AH.cell? H1 (qkm ⟨o1, 0, none⟩ 2)) fun n28 => bcase (decide ((n28 : Int) ≤ (1000 : Int))) (elI .i64 (AH.cell? H1 (qkm ⟨o1, 0, none⟩ 3)) fun n33 => bcase (decide ((n33 : Int) ≥ (1 : Int))) (elI .i64 (AH.cell? H1 (qkm ⟨o1, 0, none⟩ 3)) fun n38 => k (decide ((n38 : Int) ≤ (100 : Int))) H1) (k false H1)) (k false H1)) (k false H1)) (k false H1)) (k false H1)) (k false H1)) (k false H1)
theorem qaT.link {x0 : List Value} {H : AH} {k : Bool → AH → Prop} (h : qaT.b x0 H k) : qaT x0 H k := lk1 pan hT hm Tryz.func88 (by kernel_rfl) (A := ann0) (by kernel_rfl) (by simp) (by kernel_rfl) h
def qa8.b (x0 : List Value) (H : AH) (k : Int → AH → Prop) : Prop :=
 newC H ⟨x0, .rw, 0⟩ fun o1 H1 => ldA H1 ⟨o1, 0, none⟩ 4 fun c3 => qaT c3 H1 fun b4 H4 => bcase (!b4) (k (0 : Int) H4) (elI .i64 (AH.cell? H4 (qkm ⟨o1, 0, none⟩ 0)) fun n7 => k (qkl .i64 ((16 : Int) + n7)) H4)
theorem qa8.link {x0 : List Value} {H : AH} {k : Int → AH → Prop} (h : qa8.b x0 H k) : qa8 x0 H k := lk1 pan hT hm Tryz.func89 (by kernel_rfl) (A := ann0) (by kernel_rfl) (by simp) (by kernel_rfl) h
def qaS.b (x0 : List Value) (H : AH) (k : Int → AH → Prop) : Prop :=
 newC H ⟨x0, .rw, 0⟩ fun o1 H1 => ldA H1 ⟨o1, 0, none⟩ 4 fun c3 => qaT c3 H1 fun b4 H4 => bcase (!b4) (k (0 : Int) H4) (ldA H4 ⟨o1, 0, none⟩ 4 fun c6 => elI .i64 (AH.cell? H4 (qkm ⟨o1, 0, none⟩ 1)) fun n10 => qa8 c6 H4 fun n7 H7 => AH.cell? H7 (qkm ⟨o1, 0, none⟩ 1) = some (qki .i64 n10) ∧ k (qkl .i64 ((qkl .i64 (n7 + (1 : Int))) + n10)) H7)
def qaS.ann : Ann := { keep := fun r => match r with  | _ => [], ord := fun r => match r with | 3 => [0, 3, 4, 1, 2, 5, 6] | _ => [] }
theorem qaS.link {x0 : List Value} {H : AH} {k : Int → AH → Prop} (h : qaS.b x0 H k) : qaS x0 H k := lk1 pan hT hm Tryz.func32 (by kernel_rfl) (A := qaS.ann) (by kernel_rfl) (by simp) (by kernel_rfl) h
def nvm_New.l1 (x1 : Sl) (k : Option Addr → AH → Prop) (o16 : Nat) (s20 : Sl) (t5 : Int) (HL5 : AH) (it5 : (Int) → AH → Prop) : Prop :=
 bcase (decide ((t5 : Int) < ((s20.n : Nat) : Int))) (elL (AH.cell? HL5 (qkm ⟨o16, 0, none⟩ 0)) fun s28 => (0 ≤ t5 ∧ t5 < ((s28.n : Nat) : Int)) ∧ onPtr s28.a fun a30 => stC HL5 (qkm (qkm a30 (qku t5 * 10)) 9) [(qki .i64 (-1 : Int))] fun Hs2 => bcase (decide ((t5 : Int) < ((x1.n : Nat) : Int))) (elL (AH.cell? Hs2 (qkm ⟨o16, 0, none⟩ 0)) fun s39 => (0 ≤ t5 ∧ t5 < ((x1.n : Nat) : Int)) ∧ onPtr x1.a fun a43 => elI .i64 (AH.cell? Hs2 (qkm a43 (qku t5 * 1))) fun n44 => (0 ≤ t5 ∧ t5 < ((s39.n : Nat) : Int)) ∧ onPtr s39.a fun a45 => stC Hs2 (qkm (qkm a45 (qku t5 * 10)) 9) [(qki .i64 n44)] fun Hs4 => it5 (qkl .i64 (t5 + (1 : Int))) Hs4) (it5 (qkl .i64 (t5 + (1 : Int))) Hs2)) (k (some ⟨o16, 0, none⟩) HL5)
def nvm_New.j2 (x0 : Int) (x1 : Sl) (H : AH) (k : Option Addr → AH → Prop) (x12 : Bool) : Prop :=
 bcase x12 (k none H) ((0 ≤ x0 ∧ x0 ≤ x0 ∧ x0 ≤ (lim : Int)) ∧ newC H ⟨zerosOf (qku x0) [(qki .u64 (0 : Int)), (qki .u64 (0 : Int)), (qki .u64 (0 : Int)), (qki .u64 (0 : Int)), (qki .u64 (0 : Int)), (qki .u64 (0 : Int)), (qki .u64 (0 : Int)), (qki .u64 (0 : Int)), (qki .i64 (0 : Int)), (qki .i64 (0 : Int))], .rw, 10⟩ fun o14 H14 => newC H14 ⟨[(qkS (some ⟨o14, 0, none⟩) (qku x0) 1), (qki .u64 (0 : Int)), (qki .u64 (0 : Int)), (qki .u64 (0 : Int)), (qki .u64 (0 : Int)), (qki .u64 (0 : Int)), (qki .u64 (0 : Int)), (qki .u64 (0 : Int)), (qki .u64 (0 : Int)), (qki .u64 (0 : Int)), (qki .u64 (0 : Int)), (qki .u64 (0 : Int)), (qki .u64 (0 : Int)), (qki .u64 (0 : Int)), (qki .u64 (0 : Int)), (qki .u64 (0 : Int)), (qki .u64 (0 : Int)), (qki .u64 (0 : Int)), (qki .u64 (0 : Int)), (qki .u64 (0 : Int)), (qki .u64 (0 : Int)), (qki .u64 (0 : Int)), (qki .u64 (0 : Int)), (qki .u64 (0 : Int)), (qki .u64 (0 : Int)), (qki .u64 (0 : Int)), (qki .u64 (0 : Int)), (qki .u64 (0 : Int)), (qki .u64 (0 : Int)), (qki .u64 (0 : Int)), (qki .u64 (0 : Int)), (qki .u64 (0 : Int)), (qki .u64 (0 : Int)), (qki .u64 (0 : Int)), (qki .u64 (0 : Int)), (qki .u64 (0 : Int)), (qki .i64 (0 : Int)), (qki .i64 (-1 : Int)), (qki .i64 (0 : Int)), (qlh false)], .rw, 0⟩ fun o16 H16 => elL (AH.cell? H16 (qkm ⟨o16, 0, none⟩ 0)) fun s20 => loopT (nvm_New.l1 x1 k o16 s20) (((0 : Int)) : Int) H16)
def nvm_New.b (x0 : Int) (x1 : Sl) (H : AH) (k : Option Addr → AH → Prop) : Prop :=
 bcase (decide ((x0 : Int) < (1 : Int))) (nvm_New.j2 x0 x1 H k true) (nvm_New.j2 x0 x1 H k (decide ((x0 : Int) > (200 : Int))))
def nvm_New.ann : Ann := { keep := fun r => match r with | 5 => [(22, .int .i64)] | _ => [], ord := fun r => match r with | 9 => [0, 1, 2, 3, 4, 5, 6, 7, 8, 9, 10, 11] | _ => [] }
theorem nvm_New.link {x0 : Int} {x1 : Sl} {H : AH} {k : Option Addr → AH → Prop} (h : nvm_New.b x0 x1 H k) : nvm_New x0 x1 H k := lk1 pan hT hm Tryz.func31 (by kernel_rfl) (A := nvm_New.ann) (by kernel_rfl) (by simp) (by kernel_rfl) h
def qE.b (x0 : Option Addr) (H : AH) (k : Int → AH → Prop) : Prop :=
 bcase (qk2 x0) (k (0 : Int) H) (onPtr x0 fun a6 => elL (AH.cell? H (qkm a6 0)) fun s8 => k ((s8.n : Nat) : Int) H)
theorem qE.link {x0 : Option Addr} {H : AH} {k : Int → AH → Prop} (h : qE.b x0 H k) : qE x0 H k := lk1 pan hT hm Tryz.func119 (by kernel_rfl) (A := ann0) (by kernel_rfl) (by simp) (by kernel_rfl) h
def qW.b (x0 : Option Addr) (H : AH) (k : Bool → AH → Prop) : Prop :=
 bcase (!(qk2 x0)) (onPtr x0 fun a7 => elB (AH.cell? H (qkm a7 39)) fun b9 => k b9 H) (k false H)
theorem qW.link {x0 : Option Addr} {H : AH} {k : Bool → AH → Prop} (h : qW.b x0 H k) : qW x0 H k := lk1 pan hT hm Tryz.func120 (by kernel_rfl) (A := ann0) (by kernel_rfl) (by simp) (by kernel_rfl) h
def qaw.j1 (x0 : Option Addr) (k : Int → AH → Prop) (x5 : Bool) (Hj : AH) : Prop :=
 bcase x5 (k (1 : Int) Hj) (qW x0 Hj fun b18 H18 => bcase b18 (k (2 : Int) H18) (k (0 : Int) H18))
def qaw.b (x0 : Option Addr) (x1 : List Value) (H : AH) (k : Int → AH → Prop) : Prop :=
 newC H ⟨x1, .rw, 0⟩ fun o3 H3 => ldA H3 ⟨o3, 0, none⟩ 4 fun c6 => qaT c6 H3 fun b7 H7 => bcase (!b7) (qaw.j1 x0 k true H7) (ldA H7 ⟨o3, 0, none⟩ 4 fun c12 => qE x0 H7 fun n11 H11 => AH.row? H11 ⟨o3, 0, none⟩ 4 = some c12 ∧ qaS c12 H11 fun n13 H13 => qaw.j1 x0 k ((n11 : Int) != n13) H13)
def qaw.ann : Ann := { keep := fun r => match r with  | _ => [], ord := fun r => match r with | 1 => [0, 1, 2, 3, 4, 6, 5, 7, 8, 9, 10] | _ => [] }
theorem qaw.link {x0 : Option Addr} {x1 : List Value} {H : AH} {k : Int → AH → Prop} (h : qaw.b x0 x1 H k) : qaw x0 x1 H k := lk1 pan hT hm Tryz.func72 (by kernel_rfl) (A := qaw.ann) (by kernel_rfl) (by simp) (by kernel_rfl) h
def qao.b (x0 : Option Addr) (x1 : Int) (H : AH) (k : Bool → AH → Prop) : Prop :=
 bcase (!(qk2 x0)) (bcase (decide ((x1 : Int) ≥ (0 : Int))) (k (decide ((x1 : Int) < (35 : Int))) H) (k false H)) (k false H)
theorem qao.link {x0 : Option Addr} {x1 : Int} {H : AH} {k : Bool → AH → Prop} (h : qao.b x0 x1 H k) : qao x0 x1 H k := lk1 pan hT hm Tryz.func90 (by kernel_rfl) (A := ann0) (by kernel_rfl) (by simp) (by kernel_rfl) h
def qB.b (x0 : Option Addr) (x1 : Int) (H : AH) (k : Int → Int → AH → Prop) : Prop :=
 qao x0 x1 H fun b9 H9 => bcase (!b9) (k (0 : Int) (1 : Int) H9) (onPtr x0 fun a13 => elB (AH.cell? H9 (qkm a13 39)) fun b15 => bcase b15 (k (0 : Int) (2 : Int) H9) (onPtr x0 fun a18 => (0 ≤ x1 ∧ x1 < ((35 : Nat) : Int)) ∧ elI .u64 (AH.cell? H9 (qkm (qkm a18 1) (qku x1 * 1))) fun n21 => k n21 (0 : Int) H9))
theorem qB.link {x0 : Option Addr} {x1 : Int} {H : AH} {k : Int → Int → AH → Prop} (h : qB.b x0 x1 H k) : qB x0 x1 H k := lk2 pan hT hm Tryz.func76 (by kernel_rfl) (A := ann0) (by kernel_rfl) (by simp) (by simp) (by kernel_rfl) h
def qC.j1 (x0 : Option Addr) (k : Sl → Int → AH → Prop) (t3 : Sl × Int × Sl × Int) (HL3 : AH) : Prop :=
 onPtr x0 fun a34 => elP (AH.cell? HL3 (qkm a34 0)) fun p36 => qW p36 HL3 fun b37 H37 => bcase b37 (k ⟨none, 0, 0⟩ (2 : Int) H37) (k t3.2.2.1 (0 : Int) H37)
def qC.l2 (x0 : Option Addr) (k : Sl → Int → AH → Prop) (n11 : Int) (t3 : Sl × Int × Sl × Int) (HL3 : AH) (it3 : (Sl × Int × Sl × Int) → AH → Prop) : Prop :=
 bcase (decide ((t3.2.2.2 : Int) < n11)) (onPtr x0 fun a17 => elP (AH.cell? HL3 (qkm a17 0)) fun p19 => qB p19 (qkl .i64 ((3 : Int) + t3.2.2.2)) HL3 fun n22a n22b H22 => bcase ((n22b : Int) != (0 : Int)) (k ⟨none, 0, 0⟩ n22b H22) (newC H22 ⟨[(qki .u64 n22a)], .rw, 1⟩ fun o30 H30 => appendC 1 H30 t3.2.2.1 ⟨(some ⟨o30, 0, none⟩), 1, 1⟩ fun s31 H31 => it3 (t3.1, t3.2.1, s31, (qkl .i64 (t3.2.2.2 + (1 : Int)))) H31)) (qC.j1 x0 k t3 HL3)
def qC.b (x0 : Option Addr) (H : AH) (k : Sl → Int → AH → Prop) : Prop :=
 onPtr x0 fun a9 => elI .i64 (AH.cell? H (qkm a9 2)) fun n11 => loopT (qC.l2 x0 k n11) ((⟨none, 0, 0⟩, (0 : Int), ⟨none, 0, 0⟩, (0 : Int)) : Sl × Int × Sl × Int) H
def qC.ann : Ann := { keep := fun r => match r with | 3 => [(2, .sl), (3, .int .i64), (4, .sl), (12, .int .i64)] | _ => [], ord := fun r => match r with  | _ => [] }
theorem qC.link {x0 : Option Addr} {H : AH} {k : Sl → Int → AH → Prop} (h : qC.b x0 H k) : qC x0 H k := lk2 pan hT hm Tryz.func160 (by kernel_rfl) (A := qC.ann) (by kernel_rfl) (by simp) (by simp) (by kernel_rfl) h
def qbC.b (x0 : Int) (H : AH) (k : Int → AH → Prop) : Prop :=
 bcase (decide ((x0 : Int) < (1 : Int))) (k (0 : Int) H) (k (qkl .u64 ((qkl .u64 x0) + (1 : Int))) H)
theorem qbC.link {x0 : Int} {H : AH} {k : Int → AH → Prop} (h : qbC.b x0 H k) : qbC x0 H k := lk1 pan hT hm Tryz.func159 (by kernel_rfl) (A := ann0) (by kernel_rfl) (by simp) (by kernel_rfl) h
def qaC.j1 (k : Bool → AH → Prop) (t2 : Bool × Int) (it2 : (Bool × Int) → AH → Prop) (H16 : AH) (x33 : Bool) : Prop :=
 bcase x33 (k false H16) (it2 (t2.1, (qkl .i64 (t2.2 + (1 : Int)))) H16)
def qaC.l2 (x0 : Sl) (x1 : Int) (k : Bool → AH → Prop) (t2 : Bool × Int) (HL2 : AH) (it2 : (Bool × Int) → AH → Prop) : Prop :=
 bcase (decide ((t2.2 : Int) < ((x0.n : Nat) : Int))) ((0 ≤ t2.2 ∧ t2.2 < ((x0.n : Nat) : Int)) ∧ onPtr x0.a fun a12 => elI .u64 (AH.cell? HL2 (qkm a12 (qku t2.2 * 1))) fun n13 => qbC x1 HL2 fun n16 H16 => bcase (decide ((n13 : Int) > n16)) (qaC.j1 k t2 it2 H16 true) (bcase (decide ((t2.2 : Int) > (0 : Int))) (bcase ((n13 : Int) != (0 : Int)) ((0 ≤ (qkl .i64 (t2.2 - (1 : Int))) ∧ (qkl .i64 (t2.2 - (1 : Int))) < ((x0.n : Nat) : Int)) ∧ onPtr x0.a fun a29 => elI .u64 (AH.cell? H16 (qkm a29 (qku (qkl .i64 (t2.2 - (1 : Int))) * 1))) fun n30 => qaC.j1 k t2 it2 H16 ((n30 : Int) == (0 : Int))) (qaC.j1 k t2 it2 H16 false)) (qaC.j1 k t2 it2 H16 false))) (k (decide ((x1 : Int) ≥ (1 : Int))) HL2)
def qaC.b (x0 : Sl) (x1 : Int) (H : AH) (k : Bool → AH → Prop) : Prop :=
 loopT (qaC.l2 x0 x1 k) ((false, (0 : Int)) : Bool × Int) H
def qaC.ann : Ann := { keep := fun r => match r with | 2 => [(4, .bool), (9, .int .i64)] | _ => [], ord := fun r => match r with  | _ => [] }
theorem qaC.link {x0 : Sl} {x1 : Int} {H : AH} {k : Bool → AH → Prop} (h : qaC.b x0 x1 H k) : qaC x0 x1 H k := lk1 pan hT hm Tryz.func174 (by kernel_rfl) (A := qaC.ann) (by kernel_rfl) (by simp) (by kernel_rfl) h
def qay.j1 (x0 : Option Addr) (x1 : Int) (x2 : Int) (k : Option Addr → AH → Prop) (x31 : Bool) (Hj : AH) : Prop :=
 bcase x31 (k none Hj) (newC Hj ⟨[(qkq x0), (qki .i64 x1), (qki .i64 x2)], .rw, 0⟩ fun o36 H36 => qC (some ⟨o36, 0, none⟩) H36 fun s39a n39b H39 => bcase ((n39b : Int) != (0 : Int)) (k none H39) (qaC s39a x1 H39 fun b47 H47 => bcase (!b47) (k none H47) (k (some ⟨o36, 0, none⟩) H47)))
def qay.b (x0 : Option Addr) (x1 : Int) (x2 : Int) (H : AH) (k : Option Addr → AH → Prop) : Prop :=
 bcase (qk2 x0) (qay.j1 x0 x1 x2 k true H) (bcase (decide ((x1 : Int) < (1 : Int))) (qay.j1 x0 x1 x2 k true H) (bcase (decide ((x2 : Int) < (0 : Int))) (qay.j1 x0 x1 x2 k true H) (bcase (decide ((x2 : Int) > (16 : Int))) (qay.j1 x0 x1 x2 k true H) (qE x0 H fun n26 H26 => qay.j1 x0 x1 x2 k (((qkl .i64 (n26 - x2)) : Int) != x1) H26))))
theorem qay.link {x0 : Option Addr} {x1 : Int} {x2 : Int} {H : AH} {k : Option Addr → AH → Prop} (h : qay.b x0 x1 x2 H k) : qay x0 x1 x2 H k := lk1 pan hT hm Tryz.func147 (by kernel_rfl) (A := ann0) (by kernel_rfl) (by simp) (by kernel_rfl) h
def qaL.j1 (x0 : Option Addr) (x1 : Int) (x3 : Int) (k : Option Addr → AH → Prop) (p32 : Option Addr) (H37 : AH) (x45 : Bool) : Prop :=
 bcase x45 (k none H37) (newC H37 ⟨[(qkq x0), (qkq p32), (qki .i64 x1), (qki .i64 x3), (qki .i64 (0 : Int))], .rw, 0⟩ fun o51 H51 => k (some ⟨o51, 0, none⟩) H51)
def qaL.j2 (x0 : Option Addr) (x1 : Int) (x2 : Int) (x3 : Int) (k : Option Addr → AH → Prop) (x27 : Bool) (Hj : AH) : Prop :=
 bcase x27 (k none Hj) (qay x0 (qkl .i64 (x1 + (1 : Int))) x2 Hj fun p32 H32 => bcase (qk2 p32) (k none H32) (qB x0 (0 : Int) H32 fun n37a n37b H37 => bcase ((n37b : Int) != (0 : Int)) (qaL.j1 x0 x1 x3 k p32 H37 true) (qaL.j1 x0 x1 x3 k p32 H37 (decide ((n37a : Int) > (1099511627776 : Int))))))
def qaL.b (x0 : Option Addr) (x1 : Int) (x2 : Int) (x3 : Int) (H : AH) (k : Option Addr → AH → Prop) : Prop :=
 bcase (decide ((x1 : Int) < (1 : Int))) (qaL.j2 x0 x1 x2 x3 k true H) (qE x0 H fun n17 H17 => bcase (decide ((x1 : Int) > n17)) (qaL.j2 x0 x1 x2 x3 k true H17) (bcase (decide ((x3 : Int) < (1 : Int))) (qaL.j2 x0 x1 x2 x3 k true H17) (qaL.j2 x0 x1 x2 x3 k (decide ((x3 : Int) > (1000 : Int))) H17)))
theorem qaL.link {x0 : Option Addr} {x1 : Int} {x2 : Int} {x3 : Int} {H : AH} {k : Option Addr → AH → Prop} (h : qaL.b x0 x1 x2 x3 H k) : qaL x0 x1 x2 x3 H k := lk1 pan hT hm Tryz.func121 (by kernel_rfl) (A := ann0) (by kernel_rfl) (by simp) (by kernel_rfl) h
def qbi.b (x0 : Option Addr) (x1 : List Value) (H : AH) (k : Option Addr → AH → Prop) : Prop :=
 newC H ⟨x1, .rw, 0⟩ fun o3 H3 => ldA H3 ⟨o3, 0, none⟩ 4 fun c6 => elI .i64 (AH.cell? H3 (qkm ⟨o3, 0, none⟩ 1)) fun n9 => elI .i64 (AH.cell? H3 (qkm ⟨o3, 0, none⟩ 2)) fun n11 => qa8 c6 H3 fun n7 H7 => AH.cell? H7 (qkm ⟨o3, 0, none⟩ 2) = some (qki .i64 n11) ∧ AH.cell? H7 (qkm ⟨o3, 0, none⟩ 1) = some (qki .i64 n9) ∧ qaL x0 n7 n9 n11 H7 fun p12 H12 => k p12 H12
def qbi.ann : Ann := { keep := fun r => match r with  | _ => [], ord := fun r => match r with | 1 => [0, 1, 3, 4, 5, 6, 2, 7, 8] | _ => [] }
theorem qbi.link {x0 : Option Addr} {x1 : List Value} {H : AH} {k : Option Addr → AH → Prop} (h : qbi.b x0 x1 H k) : qbi x0 x1 H k := lk1 pan hT hm Tryz.func73 (by kernel_rfl) (A := qbi.ann) (by kernel_rfl) (by simp) (by kernel_rfl) h
def qbV.b (x0 : List Value) (H : AH) (k : Int → AH → Prop) : Prop :=
 newC H ⟨x0, .rw, 0⟩ fun o1 H1 => ldA H1 ⟨o1, 0, none⟩ 4 fun c3 => qaT c3 H1 fun b4 H4 => bcase (!b4) (k (0 : Int) H4) (elI .i64 (AH.cell? H4 (qkm ⟨o1, 0, none⟩ 0)) fun n7 => k (qkl .i64 (n7 * (8 : Int))) H4)
theorem qbV.link {x0 : List Value} {H : AH} {k : Int → AH → Prop} (h : qbV.b x0 H k) : qbV x0 H k := lk1 pan hT hm Tryz.func84 (by kernel_rfl) (A := ann0) (by kernel_rfl) (by simp) (by kernel_rfl) h
def qaM.b (x0 : Int) (H : AH) (k : Bool → AH → Prop) : Prop :=
 bcase (decide ((x0 : Int) ≥ (8 : Int))) (bcase (decide ((x0 : Int) ≤ (512 : Int))) (((8 : Int) : Int) ≠ 0 ∧ k (((Int.tmod x0 (8 : Int)) : Int) == (0 : Int)) H) (k false H)) (k false H)
theorem qaM.link {x0 : Int} {H : AH} {k : Bool → AH → Prop} (h : qaM.b x0 H k) : qaM x0 H k := lk1 pan hT hm Tryz.func126 (by kernel_rfl) (A := ann0) (by kernel_rfl) (by simp) (by kernel_rfl) h
def qaV.b (x0 : Int) (H : AH) (k : Bool → AH → Prop) : Prop :=
 bcase (decide ((x0 : Int) ≥ (2 : Int))) (k (decide ((x0 : Int) ≤ (512 : Int))) H) (k false H)
theorem qaV.link {x0 : Int} {H : AH} {k : Bool → AH → Prop} (h : qaV.b x0 H k) : qaV x0 H k := lk1 pan hT hm Tryz.func148 (by kernel_rfl) (A := ann0) (by kernel_rfl) (by simp) (by kernel_rfl) h
def qbj.b (x0 : Int) (x1 : Bool) (H : AH) (k : Int → AH → Prop) : Prop :=
 qaV x0 H fun b7 H7 => bcase (!b7) (k (0 : Int) H7) ((0 : Int) ≤ (1 : Int) ∧ bcase x1 (k (orI .u64 (shlI .u64 (qkl .u64 x0) (1 : Int)) (1 : Int)) H7) (k (shlI .u64 (qkl .u64 x0) (1 : Int)) H7))
theorem qbj.link {x0 : Int} {x1 : Bool} {H : AH} {k : Int → AH → Prop} (h : qbj.b x0 x1 H k) : qbj x0 x1 H k := lk1 pan hT hm Tryz.func127 (by kernel_rfl) (A := ann0) (by kernel_rfl) (by simp) (by kernel_rfl) h
def qbK.b (x0 : Int) (H : AH) (k : Sl → AH → Prop) : Prop :=
 qaM x0 H fun b5 H5 => bcase (!b5) (k ⟨none, 0, 0⟩ H5) ((0 ≤ x0 ∧ x0 ≤ x0 ∧ x0 ≤ (lim : Int)) ∧ newC H5 ⟨zerosOf (qku x0) [(qki .u64 (0 : Int))], .rw, 1⟩ fun o8 H8 => qbj x0 false H8 fun n11 H11 => (0 ≤ (0 : Int) ∧ (0 : Int) < (((qku x0) : Nat) : Int)) ∧ stC H11 (qkm ⟨o8, 0, none⟩ (qku (0 : Int) * 1)) [(qki .u64 n11)] fun Hs2 => k ⟨(some ⟨o8, 0, none⟩), (qku x0), 1⟩ Hs2)
theorem qbK.link {x0 : Int} {H : AH} {k : Sl → AH → Prop} (h : qbK.b x0 H k) : qbK x0 H k := lk1 pan hT hm Tryz.func83 (by kernel_rfl) (A := ann0) (by kernel_rfl) (by simp) (by kernel_rfl) h
def qa3.b (x0 : List Value) (x1 : Int) (H : AH) (k : Int → AH → Prop) : Prop :=
 newC H ⟨x0, .rw, 0⟩ fun o2 H2 => ldA H2 ⟨o2, 0, none⟩ 4 fun c5 => qaT c5 H2 fun b6 H6 => bcase (!b6) (k (-1 : Int) H6) (bcase (decide ((x1 : Int) < (0 : Int))) (k (-1 : Int) H6) (elI .i64 (AH.cell? H6 (qkm ⟨o2, 0, none⟩ 0)) fun n15 => bcase (decide ((x1 : Int) ≥ n15)) (k (-1 : Int) H6) (k (qkl .i64 ((16 : Int) + x1)) H6)))
theorem qa3.link {x0 : List Value} {x1 : Int} {H : AH} {k : Int → AH → Prop} (h : qa3.b x0 x1 H k) : qa3 x0 x1 H k := lk1 pan hT hm Tryz.func56 (by kernel_rfl) (A := ann0) (by kernel_rfl) (by simp) (by kernel_rfl) h
def qaE.j1 (x0 : Option Addr) (H : AH) (k : Int → AH → Prop) (x5 : Bool) : Prop :=
 bcase x5 (k (1 : Int) H) (onPtr x0 fun a22 => elP (AH.cell? H (qkm a22 0)) fun p24 => qW p24 H fun b25 H25 => bcase b25 (k (2 : Int) H25) (k (0 : Int) H25))
def qaE.b (x0 : Option Addr) (x1 : Int) (H : AH) (k : Int → AH → Prop) : Prop :=
 bcase (qk2 x0) (qaE.j1 x0 H k true) (bcase (decide ((x1 : Int) < (0 : Int))) (qaE.j1 x0 H k true) (onPtr x0 fun a15 => elI .i64 (AH.cell? H (qkm a15 2)) fun n17 => qaE.j1 x0 H k (decide ((x1 : Int) ≥ n17))))
theorem qaE.link {x0 : Option Addr} {x1 : Int} {H : AH} {k : Int → AH → Prop} (h : qaE.b x0 x1 H k) : qaE x0 x1 H k := lk1 pan hT hm Tryz.func128 (by kernel_rfl) (A := ann0) (by kernel_rfl) (by simp) (by kernel_rfl) h
def qaO.b (x0 : Option Addr) (H : AH) (k : Int → AH → Prop) : Prop :=
 bcase (qk2 x0) (k (0 : Int) H) (onPtr x0 fun a9 => elP (AH.cell? H (qkm a9 0)) fun p11 => qB p11 (0 : Int) H fun n12a n12b H12 => k (qkl .i64 n12a) H12)
theorem qaO.link {x0 : Option Addr} {H : AH} {k : Int → AH → Prop} (h : qaO.b x0 H k) : qaO x0 H k := lk1 pan hT hm Tryz.func82 (by kernel_rfl) (A := ann0) (by kernel_rfl) (by simp) (by kernel_rfl) h
def gap_may.b (x0 : Int) (x1 : Int) (H : AH) (k : Bool → AH → Prop) : Prop :=
 bcase (decide ((x0 : Int) ≥ (1 : Int))) (bcase (decide ((x0 : Int) ≤ (100000 : Int))) (k (decide ((x1 : Int) ≥ (0 : Int))) H) (k false H)) (k false H)
theorem gap_may.link {x0 : Int} {x1 : Int} {H : AH} {k : Bool → AH → Prop} (h : gap_may.b x0 x1 H k) : gap_may x0 x1 H k := lk1 pan hT hm Tryz.func153 (by kernel_rfl) (A := ann0) (by kernel_rfl) (by simp) (by kernel_rfl) h
def qbY.b (x0 : Int) (x1 : Int) (H : AH) (k : Int → AH → Prop) : Prop :=
 ((qkl .i64 (x0 + (1 : Int))) : Int) ≠ 0 ∧ (x0 : Int) ≠ 0 ∧ k (Int.tmod (qkl .i64 (qlH x1 (qkl .i64 (x0 + (1 : Int))))) x0) H
theorem qbY.link {x0 : Int} {x1 : Int} {H : AH} {k : Int → AH → Prop} (h : qbY.b x0 x1 H k) : qbY x0 x1 H k := lk1 pan hT hm Tryz.func154 (by kernel_rfl) (A := ann0) (by kernel_rfl) (by simp) (by kernel_rfl) h
def gap_Gap.b (x0 : Int) (x1 : Int) (H : AH) (k : Int → AH → Prop) : Prop :=
 gap_may x0 x1 H fun b7 H7 => bcase (!b7) (k (-1 : Int) H7) (((qkl .i64 (x0 + (1 : Int))) : Int) ≠ 0 ∧ k (qkl .i64 (x0 - (Int.tmod x1 (qkl .i64 (x0 + (1 : Int)))))) H7)
theorem gap_Gap.link {x0 : Int} {x1 : Int} {H : AH} {k : Int → AH → Prop} (h : gap_Gap.b x0 x1 H k) : gap_Gap x0 x1 H k := lk1 pan hT hm Tryz.func155 (by kernel_rfl) (A := ann0) (by kernel_rfl) (by simp) (by kernel_rfl) h
def qbn.j1 (x0 : Int) (x1 : Int) (x2 : Int) (k : Int → AH → Prop) (H10 : AH) (x20 : Bool) : Prop :=
 bcase x20 (k (-1 : Int) H10) (qbY x0 x1 H10 fun n24 H24 => (x0 : Int) ≠ 0 ∧ gap_Gap x0 x1 H24 fun n31 H31 => bcase (decide (((Int.tmod (qkl .i64 (x2 + n24)) x0) : Int) ≥ n31)) (k (qkl .i64 ((Int.tmod (qkl .i64 (x2 + n24)) x0) + (1 : Int))) H31) (k (Int.tmod (qkl .i64 (x2 + n24)) x0) H31))
def qbn.b (x0 : Int) (x1 : Int) (x2 : Int) (H : AH) (k : Int → AH → Prop) : Prop :=
 gap_may x0 x1 H fun b10 H10 => bcase (!b10) (qbn.j1 x0 x1 x2 k H10 true) (bcase (decide ((x2 : Int) < (0 : Int))) (qbn.j1 x0 x1 x2 k H10 true) (qbn.j1 x0 x1 x2 k H10 (decide ((x2 : Int) ≥ x0))))
theorem qbn.link {x0 : Int} {x1 : Int} {x2 : Int} {H : AH} {k : Int → AH → Prop} (h : qbn.b x0 x1 x2 H k) : qbn x0 x1 x2 H k := lk1 pan hT hm Tryz.func130 (by kernel_rfl) (A := ann0) (by kernel_rfl) (by simp) (by kernel_rfl) h
def qal.l1 (x0 : Sl) (x1 : Int) (x2 : Int) (k : Int → AH → Prop) (t4 : Int × Int) (HL4 : AH) (it4 : (Int × Int) → AH → Prop) : Prop :=
 bcase (decide ((t4.2 : Int) ≥ (0 : Int))) ((0 ≤ t4.2 ∧ t4.2 < ((x0.n : Nat) : Int)) ∧ onPtr x0.a fun a24 => elI .u64 (AH.cell? HL4 (qkm a24 (qku t4.2 * 1))) fun n25 => bcase ((n25 : Int) == (qkl .u64 ((qkl .u64 x2) + (1 : Int)))) (k (qkl .i64 (x1 + t4.2)) HL4) (it4 (t4.1, (qkl .i64 (t4.2 - (1 : Int)))) HL4)) (k x2 HL4)
def qal.j2 (x0 : Sl) (x1 : Int) (x2 : Int) (H : AH) (k : Int → AH → Prop) (x14 : Bool) : Prop :=
 bcase x14 (k (-1 : Int) H) (loopT (qal.l1 x0 x1 x2 k) (((0 : Int), (qkl .i64 (((x0.n : Nat) : Int) - (1 : Int)))) : Int × Int) H)
def qal.b (x0 : Sl) (x1 : Int) (x2 : Int) (H : AH) (k : Int → AH → Prop) : Prop :=
 bcase (decide ((x2 : Int) < (0 : Int))) (qal.j2 x0 x1 x2 H k true) (qal.j2 x0 x1 x2 H k (decide ((x2 : Int) ≥ x1)))
def qal.ann : Ann := { keep := fun r => match r with | 4 => [(6, .int .i64), (7, .int .i64)] | _ => [], ord := fun r => match r with  | _ => [] }
theorem qal.link {x0 : Sl} {x1 : Int} {x2 : Int} {H : AH} {k : Int → AH → Prop} (h : qal.b x0 x1 x2 H k) : qal x0 x1 x2 H k := lk1 pan hT hm Tryz.func175 (by kernel_rfl) (A := qal.ann) (by kernel_rfl) (by simp) (by kernel_rfl) h
def qab.j1 (x0 : Option Addr) (x1 : Int) (H : AH) (k : Int → Sl → Int → AH → Prop) (x22 : Bool) : Prop :=
 bcase x22 (k (0 : Int) ⟨none, 0, 0⟩ (1 : Int) H) (qC x0 H fun s25a n25b H25 => onPtr x0 fun a30 => elI .i64 (AH.cell? H25 (qkm a30 1)) fun n32 => qal s25a n32 x1 H25 fun n34 H34 => k n34 s25a n25b H34)
def qab.b (x0 : Option Addr) (x1 : Int) (H : AH) (k : Int → Sl → Int → AH → Prop) : Prop :=
 bcase (qk2 x0) (qab.j1 x0 x1 H k true) (bcase (decide ((x1 : Int) < (0 : Int))) (qab.j1 x0 x1 H k true) (onPtr x0 fun a18 => elI .i64 (AH.cell? H (qkm a18 1)) fun n20 => qab.j1 x0 x1 H k (decide ((x1 : Int) ≥ n20))))
theorem qab.link {x0 : Option Addr} {x1 : Int} {H : AH} {k : Int → Sl → Int → AH → Prop} (h : qab.b x0 x1 H k) : qab x0 x1 H k := lk3 pan hT hm Tryz.func151 (by kernel_rfl) (A := ann0) (by kernel_rfl) (by simp) (by simp) (by simp) (by kernel_rfl) h
def qaN.b (x0 : Option Addr) (x1 : Int) (H : AH) (k : Bool → AH → Prop) : Prop :=
 bcase (decide ((x1 : Int) ≥ (0 : Int))) (qE x0 H fun n10 H10 => k (decide ((x1 : Int) < n10)) H10) (k false H)
theorem qaN.link {x0 : Option Addr} {x1 : Int} {H : AH} {k : Bool → AH → Prop} (h : qaN.b x0 x1 H k) : qaN x0 x1 H k := lk1 pan hT hm Tryz.func176 (by kernel_rfl) (A := ann0) (by kernel_rfl) (by simp) (by kernel_rfl) h
def qa9.b (x0 : Option Addr) (x1 : Int) (H : AH) (k : List Value → Int → AH → Prop) : Prop :=
 newC H ⟨[(qki .u64 (0 : Int)), (qki .u64 (0 : Int)), (qki .u64 (0 : Int)), (qki .u64 (0 : Int)), (qki .u64 (0 : Int)), (qki .u64 (0 : Int)), (qki .u64 (0 : Int)), (qki .u64 (0 : Int))], .rw, 0⟩ fun o4 H4 => qaN x0 x1 H4 fun b9 H9 => bcase (!b9) ((qkx [(qki .u64 (0 : Int)), (qki .u64 (0 : Int)), (qki .u64 (0 : Int)), (qki .u64 (0 : Int)), (qki .u64 (0 : Int)), (qki .u64 (0 : Int)), (qki .u64 (0 : Int)), (qki .u64 (0 : Int))] = 8 ∧ qk7 [(qki .u64 (0 : Int)), (qki .u64 (0 : Int)), (qki .u64 (0 : Int)), (qki .u64 (0 : Int)), (qki .u64 (0 : Int)), (qki .u64 (0 : Int)), (qki .u64 (0 : Int)), (qki .u64 (0 : Int))] qq = true) ∧ stC H9 ⟨o4, 0, none⟩ [(qki .u64 (0 : Int)), (qki .u64 (0 : Int)), (qki .u64 (0 : Int)), (qki .u64 (0 : Int)), (qki .u64 (0 : Int)), (qki .u64 (0 : Int)), (qki .u64 (0 : Int)), (qki .u64 (0 : Int))] fun Hs2 => ldA Hs2 ⟨o4, 0, none⟩ 8 fun r0 => k r0 (1 : Int) Hs2) (onPtr x0 fun a14 => elB (AH.cell? H9 (qkm a14 39)) fun b16 => bcase b16 ((qkx [(qki .u64 (0 : Int)), (qki .u64 (0 : Int)), (qki .u64 (0 : Int)), (qki .u64 (0 : Int)), (qki .u64 (0 : Int)), (qki .u64 (0 : Int)), (qki .u64 (0 : Int)), (qki .u64 (0 : Int))] = 8 ∧ qk7 [(qki .u64 (0 : Int)), (qki .u64 (0 : Int)), (qki .u64 (0 : Int)), (qki .u64 (0 : Int)), (qki .u64 (0 : Int)), (qki .u64 (0 : Int)), (qki .u64 (0 : Int)), (qki .u64 (0 : Int))] qq = true) ∧ stC H9 ⟨o4, 0, none⟩ [(qki .u64 (0 : Int)), (qki .u64 (0 : Int)), (qki .u64 (0 : Int)), (qki .u64 (0 : Int)), (qki .u64 (0 : Int)), (qki .u64 (0 : Int)), (qki .u64 (0 : Int)), (qki .u64 (0 : Int))] fun Hs4 => ldA Hs4 ⟨o4, 0, none⟩ 8 fun r0 => k r0 (2 : Int) Hs4) (onPtr x0 fun a19 => elL (AH.cell? H9 (qkm a19 0)) fun s21 => (0 ≤ x1 ∧ x1 < ((s21.n : Nat) : Int)) ∧ onPtr s21.a fun a23 => ldA H9 (qkm (qkm a23 (qku x1 * 10)) 0) 8 fun c25 => (qkx c25 = 8 ∧ qk7 c25 qq = true) ∧ stC H9 ⟨o4, 0, none⟩ c25 fun Hs6 => ldA Hs6 ⟨o4, 0, none⟩ 8 fun r0 => k r0 (0 : Int) Hs6))
theorem qa9.link {x0 : Option Addr} {x1 : Int} {H : AH} {k : List Value → Int → AH → Prop} (h : qa9.b x0 x1 H k) : qa9 x0 x1 H k := lk2 pan hT hm Tryz.func152 (by kernel_rfl) (A := ann0) (by kernel_rfl) (by simp) (by simp) (by kernel_rfl) h
def qbg.b (x0 : Option Addr) (x1 : Int) (H : AH) (k : List Value → Int → AH → Prop) : Prop :=
 newC H ⟨[(qki .u64 (0 : Int)), (qki .u64 (0 : Int)), (qki .u64 (0 : Int)), (qki .u64 (0 : Int)), (qki .u64 (0 : Int)), (qki .u64 (0 : Int)), (qki .u64 (0 : Int)), (qki .u64 (0 : Int))], .rw, 0⟩ fun o4 H4 => qab x0 x1 H4 fun n12a s12b n12c H12 => bcase ((n12c : Int) != (0 : Int)) ((qkx [(qki .u64 (0 : Int)), (qki .u64 (0 : Int)), (qki .u64 (0 : Int)), (qki .u64 (0 : Int)), (qki .u64 (0 : Int)), (qki .u64 (0 : Int)), (qki .u64 (0 : Int)), (qki .u64 (0 : Int))] = 8 ∧ qk7 [(qki .u64 (0 : Int)), (qki .u64 (0 : Int)), (qki .u64 (0 : Int)), (qki .u64 (0 : Int)), (qki .u64 (0 : Int)), (qki .u64 (0 : Int)), (qki .u64 (0 : Int)), (qki .u64 (0 : Int))] qq = true) ∧ stC H12 ⟨o4, 0, none⟩ [(qki .u64 (0 : Int)), (qki .u64 (0 : Int)), (qki .u64 (0 : Int)), (qki .u64 (0 : Int)), (qki .u64 (0 : Int)), (qki .u64 (0 : Int)), (qki .u64 (0 : Int)), (qki .u64 (0 : Int))] fun Hs2 => ldA Hs2 ⟨o4, 0, none⟩ 8 fun r0 => k r0 n12c Hs2) (onPtr x0 fun a21 => elP (AH.cell? H12 (qkm a21 0)) fun p23 => qa9 p23 n12a H12 fun c25a n25b H25 => (qkx c25a = 8 ∧ qk7 c25a qq = true) ∧ stC H25 ⟨o4, 0, none⟩ c25a fun Hs4 => ldA Hs4 ⟨o4, 0, none⟩ 8 fun r0 => k r0 n25b Hs4)
theorem qbg.link {x0 : Option Addr} {x1 : Int} {H : AH} {k : List Value → Int → AH → Prop} (h : qbg.b x0 x1 H k) : qbg x0 x1 H k := lk2 pan hT hm Tryz.func129 (by kernel_rfl) (A := ann0) (by kernel_rfl) (by simp) (by simp) (by kernel_rfl) h
def qaF.b (x0 : Option Addr) (x1 : Int) (H : AH) (k : List Value → Int → AH → Prop) : Prop :=
 newC H ⟨[(qki .u64 (0 : Int)), (qki .u64 (0 : Int)), (qki .u64 (0 : Int)), (qki .u64 (0 : Int)), (qki .u64 (0 : Int)), (qki .u64 (0 : Int)), (qki .u64 (0 : Int)), (qki .u64 (0 : Int))], .rw, 0⟩ fun o4 H4 => qaE x0 x1 H4 fun n9 H9 => bcase ((n9 : Int) != (0 : Int)) ((qkx [(qki .u64 (0 : Int)), (qki .u64 (0 : Int)), (qki .u64 (0 : Int)), (qki .u64 (0 : Int)), (qki .u64 (0 : Int)), (qki .u64 (0 : Int)), (qki .u64 (0 : Int)), (qki .u64 (0 : Int))] = 8 ∧ qk7 [(qki .u64 (0 : Int)), (qki .u64 (0 : Int)), (qki .u64 (0 : Int)), (qki .u64 (0 : Int)), (qki .u64 (0 : Int)), (qki .u64 (0 : Int)), (qki .u64 (0 : Int)), (qki .u64 (0 : Int))] qq = true) ∧ stC H9 ⟨o4, 0, none⟩ [(qki .u64 (0 : Int)), (qki .u64 (0 : Int)), (qki .u64 (0 : Int)), (qki .u64 (0 : Int)), (qki .u64 (0 : Int)), (qki .u64 (0 : Int)), (qki .u64 (0 : Int)), (qki .u64 (0 : Int))] fun Hs2 => ldA Hs2 ⟨o4, 0, none⟩ 8 fun r0 => k r0 n9 Hs2) (onPtr x0 fun a15 => elP (AH.cell? H9 (qkm a15 1)) fun p17 => onPtr x0 fun a19 => elI .i64 (AH.cell? H9 (qkm a19 2)) fun n21 => qaO x0 H9 fun n23 H23 => AH.cell? H23 (qkm a19 2) = some (qki .i64 n21) ∧ AH.cell? H23 (qkm a15 1) = some (qkq p17) ∧ qbn n21 n23 x1 H23 fun n25 H25 => AH.cell? H25 (qkm a15 1) = some (qkq p17) ∧ qbg p17 n25 H25 fun c26a n26b H26 => (qkx c26a = 8 ∧ qk7 c26a qq = true) ∧ stC H26 ⟨o4, 0, none⟩ c26a fun Hs4 => ldA Hs4 ⟨o4, 0, none⟩ 8 fun r0 => k r0 n26b Hs4)
def qaF.ann : Ann := { keep := fun r => match r with  | _ => [], ord := fun r => match r with | 4 => [0, 1, 2, 3, 4, 5, 6, 7, 8, 10, 9, 11, 12, 13, 14, 15, 16] | _ => [] }
theorem qaF.link {x0 : Option Addr} {x1 : Int} {H : AH} {k : List Value → Int → AH → Prop} (h : qaF.b x0 x1 H k) : qaF x0 x1 H k := lk2 pan hT hm Tryz.func85 (by kernel_rfl) (A := qaF.ann) (by kernel_rfl) (by simp) (by simp) (by kernel_rfl) h
def qaX.b (x0 : Sl) (x1 : Int) (H : AH) (k : List Value → AH → Prop) : Prop :=
 newC H ⟨[(qki .u64 (0 : Int)), (qki .u64 (0 : Int)), (qki .u64 (0 : Int)), (qki .u64 (0 : Int)), (qki .u64 (0 : Int)), (qki .u64 (0 : Int)), (qki .u64 (0 : Int)), (qki .u64 (0 : Int))], .rw, 0⟩ fun o4 H4 => newC H4 ⟨[(qki .u64 (0 : Int)), (qki .u64 (0 : Int)), (qki .u64 (0 : Int)), (qki .u64 (0 : Int)), (qki .u64 (0 : Int)), (qki .u64 (0 : Int)), (qki .u64 (0 : Int)), (qki .u64 (0 : Int))], .rw, 0⟩ fun o5 H5 => (0 ≤ (qkl .i64 (x1 * (8 : Int))) ∧ (qkl .i64 (x1 * (8 : Int))) ≤ ((x0.n : Nat) : Int)) ∧ copyC 1 H5 ⟨(some ⟨o5, 0, none⟩), 8, 0⟩ ⟨(Option.map (fun x => qkm x (qku (qkl .i64 (x1 * (8 : Int))) * 1)) x0.a), (x0.n - qku (qkl .i64 (x1 * (8 : Int)))), 0⟩ fun n11 H11 => ldA H11 ⟨o5, 0, none⟩ 8 fun c12 => (qkx c12 = 8 ∧ qk7 c12 qq = true) ∧ stC H11 ⟨o4, 0, none⟩ c12 fun Hs2 => ldA Hs2 ⟨o4, 0, none⟩ 8 fun r0 => k r0 Hs2
def qaX.ann : Ann := { keep := fun r => match r with  | _ => [], ord := fun r => match r with | 2 => [0, 1, 2, 3, 4, 5] | _ => [] }
theorem qaX.link {x0 : Sl} {x1 : Int} {H : AH} {k : List Value → AH → Prop} (h : qaX.b x0 x1 H k) : qaX x0 x1 H k := lk1 pan hT hm Tryz.func86 (by kernel_rfl) (A := qaX.ann) (by kernel_rfl) (by simp) (by kernel_rfl) h
def qcg.b (x0 : Int) (x1 : Int) (H : AH) (k : Int → Int → AH → Prop) : Prop :=
 gap_Gap x0 x1 H fun n8 H8 => bcase ((n8 : Int) == (-1 : Int)) (k (-1 : Int) (-1 : Int) H8) (bcase ((n8 : Int) == (0 : Int)) (k x0 (0 : Int) H8) (k (qkl .i64 (n8 - (1 : Int))) n8 H8))
theorem qcg.link {x0 : Int} {x1 : Int} {H : AH} {k : Int → Int → AH → Prop} (h : qcg.b x0 x1 H k) : qcg x0 x1 H k := lk2 pan hT hm Tryz.func156 (by kernel_rfl) (A := ann0) (by kernel_rfl) (by simp) (by simp) (by kernel_rfl) h
def qav.b (x0 : Option Addr) (H : AH) (k : Int → AH → Prop) : Prop :=
 onPtr x0 fun a4 => elI .i64 (AH.cell? H (qkm a4 36)) fun n6 => onPtr x0 fun a8 => stC H (qkm a8 36) [(qki .i64 (qkl .i64 (n6 + (1 : Int))))] fun Hs2 => onPtr x0 fun a12 => elI .i64 (AH.cell? Hs2 (qkm a12 37)) fun n14 => bcase ((n14 : Int) == (0 : Int)) (onPtr x0 fun a17 => stC Hs2 (qkm a17 39) [(qlh true)] fun Hs4 => onPtr x0 fun a20 => elI .i64 (AH.cell? Hs4 (qkm a20 38)) fun n22 => k n22 Hs4) (onPtr x0 fun a25 => elI .i64 (AH.cell? Hs2 (qkm a25 37)) fun n27 => bcase (decide ((n27 : Int) > (0 : Int))) (onPtr x0 fun a30 => elI .i64 (AH.cell? Hs2 (qkm a30 37)) fun n32 => onPtr x0 fun a34 => stC Hs2 (qkm a34 37) [(qki .i64 (qkl .i64 (n32 - (1 : Int))))] fun Hs6 => k (-1 : Int) Hs6) (k (-1 : Int) Hs2))
theorem qav.link {x0 : Option Addr} {H : AH} {k : Int → AH → Prop} (h : qav.b x0 H k) : qav x0 H k := lk1 pan hT hm Tryz.func91 (by kernel_rfl) (A := ann0) (by kernel_rfl) (by simp) (by kernel_rfl) h
def qbd.j1 (k : List Value → AH → Prop) (o3 : Nat) (o6 : Nat) (HL2 : AH) : Prop :=
 ldA HL2 ⟨o3, 0, none⟩ 8 fun c23 => (qkx c23 = 8 ∧ qk7 c23 qq = true) ∧ stC HL2 ⟨o6, 0, none⟩ c23 fun Hs2 => ldA Hs2 ⟨o6, 0, none⟩ 8 fun r0 => k r0 Hs2
def qbd.l2 (x2 : Int) (k : List Value → AH → Prop) (o3 : Nat) (o6 : Nat) (c9 : List Value) (t2 : Int) (HL2 : AH) (it2 : (Int) → AH → Prop) : Prop :=
 bcase (decide ((t2 : Int) < (8 : Int))) ((0 ≤ t2 ∧ t2 < ((8 : Nat) : Int)) ∧ elI .u64 ((c9)[(qku t2 * 1)]?) fun n13 => (0 : Int) ≤ t2 ∧ bcase (((andI .i64 (shrI .i64 x2 t2) (1 : Int)) : Int) == (1 : Int)) ((0 ≤ t2 ∧ t2 < ((8 : Nat) : Int)) ∧ stC HL2 (qkm ⟨o3, 0, none⟩ (qku t2 * 1)) [(qki .u64 n13)] fun Hs4 => it2 (qkl .i64 (t2 + (1 : Int))) Hs4) (it2 (qkl .i64 (t2 + (1 : Int))) HL2)) (qbd.j1 k o3 o6 HL2)
def qbd.b (x0 : List Value) (x1 : List Value) (x2 : Int) (H : AH) (k : List Value → AH → Prop) : Prop :=
 newC H ⟨x0, .rw, 0⟩ fun o3 H3 => newC H3 ⟨x1, .rw, 0⟩ fun o4 H4 => newC H4 ⟨[(qki .u64 (0 : Int)), (qki .u64 (0 : Int)), (qki .u64 (0 : Int)), (qki .u64 (0 : Int)), (qki .u64 (0 : Int)), (qki .u64 (0 : Int)), (qki .u64 (0 : Int)), (qki .u64 (0 : Int))], .rw, 0⟩ fun o6 H6 => ldA H6 ⟨o4, 0, none⟩ 8 fun c9 => loopT (qbd.l2 x2 k o3 o6 c9) (((0 : Int)) : Int) H6
def qbd.ann : Ann := { keep := fun r => match r with | 2 => [(10, .int .i64)] | _ => [], ord := fun r => match r with  | _ => [] }
theorem qbd.link {x0 : List Value} {x1 : List Value} {x2 : Int} {H : AH} {k : List Value → AH → Prop} (h : qbd.b x0 x1 x2 H k) : qbd x0 x1 x2 H k := lk1 pan hT hm Tryz.func177 (by kernel_rfl) (A := qbd.ann) (by kernel_rfl) (by simp) (by kernel_rfl) h
def qan.b (x0 : Option Addr) (x1 : Bool) (H : AH) (k : Int → AH → Prop) : Prop :=
 onPtr x0 fun a7 => elB (AH.cell? H (qkm a7 39)) fun b9 => bcase b9 (k (2 : Int) H) (bcase x1 (k (3 : Int) H) (k (0 : Int) H))
theorem qan.link {x0 : Option Addr} {x1 : Bool} {H : AH} {k : Int → AH → Prop} (h : qan.b x0 x1 H k) : qan x0 x1 H k := lk1 pan hT hm Tryz.func92 (by kernel_rfl) (A := ann0) (by kernel_rfl) (by simp) (by kernel_rfl) h
def qI.j1 (x0 : Option Addr) (k : Int → AH → Prop) (x9 : Bool) (Hj : AH) : Prop :=
 qan x0 x9 Hj fun n65 H65 => k n65 H65
def qI.j2 (x0 : Option Addr) (x1 : Int) (k : Int → AH → Prop) (o5 : Nat) (H21 : AH) (n21 : Int) (a27 : Addr) (x9 : Bool) : Prop :=
 bcase (!x9) (ldA H21 (qkm (qkm a27 (qku x1 * 10)) 0) 8 fun c50 => ldA H21 ⟨o5, 0, none⟩ 8 fun c51 => qbd c50 c51 n21 H21 fun c53 H53 => (qkx c53 = 8 ∧ qk7 c53 qq = true) ∧ stC H53 (qkm (qkm a27 (qku x1 * 10)) 0) c53 fun Hs2 => elI .i64 (AH.cell? Hs2 (qkm (qkm a27 (qku x1 * 10)) 8)) fun n59 => stC Hs2 (qkm (qkm a27 (qku x1 * 10)) 8) [(qki .i64 (qkl .i64 (n59 + (1 : Int))))] fun Hs4 => qI.j1 x0 k x9 Hs4) (qI.j1 x0 k x9 H21)
def qI.b (x0 : Option Addr) (x1 : Int) (x2 : List Value) (H : AH) (k : Int → AH → Prop) : Prop :=
 newC H ⟨x2, .rw, 0⟩ fun o5 H5 => qaN x0 x1 H5 fun b13 H13 => bcase (!b13) (k (1 : Int) H13) (onPtr x0 fun a17 => elB (AH.cell? H13 (qkm a17 39)) fun b19 => bcase b19 (k (2 : Int) H13) (qav x0 H13 fun n21 H21 => onPtr x0 fun a23 => elL (AH.cell? H21 (qkm a23 0)) fun s25 => (0 ≤ x1 ∧ x1 < ((s25.n : Nat) : Int)) ∧ onPtr s25.a fun a27 => elI .i64 (AH.cell? H21 (qkm (qkm a27 (qku x1 * 10)) 9)) fun n31 => bcase (decide ((n31 : Int) ≥ (0 : Int))) (elI .i64 (AH.cell? H21 (qkm (qkm a27 (qku x1 * 10)) 8)) fun n37 => elI .i64 (AH.cell? H21 (qkm (qkm a27 (qku x1 * 10)) 9)) fun n41 => qI.j2 x0 x1 k o5 H21 n21 a27 (decide ((n37 : Int) ≥ n41))) (qI.j2 x0 x1 k o5 H21 n21 a27 false)))
def qI.ann : Ann := { keep := fun r => match r with  | _ => [], ord := fun r => match r with | 7 => [0, 1, 2, 3, 4, 5, 6, 7, 8, 9, 10, 11, 12, 13, 14, 15, 16] | 9 => [0, 1, 2, 3, 4, 5, 6, 7, 8, 9, 10] | _ => [] }
theorem qI.link {x0 : Option Addr} {x1 : Int} {x2 : List Value} {H : AH} {k : Int → AH → Prop} (h : qI.b x0 x1 x2 H k) : qI x0 x1 x2 H k := lk1 pan hT hm Tryz.func157 (by kernel_rfl) (A := qI.ann) (by kernel_rfl) (by simp) (by kernel_rfl) h
def qa5.l1 (x0 : Sl) (k : Int → AH → Prop) (t2 : Int × Int) (HL2 : AH) (it2 : (Int × Int) → AH → Prop) : Prop :=
 bcase (decide ((t2.2 : Int) < ((x0.n : Nat) : Int))) ((0 ≤ t2.2 ∧ t2.2 < ((x0.n : Nat) : Int)) ∧ onPtr x0.a fun a10 => elI .u64 (AH.cell? HL2 (qkm a10 (qku t2.2 * 1))) fun n11 => bcase ((n11 : Int) == (0 : Int)) (k t2.2 HL2) (it2 (t2.1, (qkl .i64 (t2.2 + (1 : Int)))) HL2)) (k (-1 : Int) HL2)
def qa5.b (x0 : Sl) (H : AH) (k : Int → AH → Prop) : Prop :=
 loopT (qa5.l1 x0 k) (((0 : Int), (0 : Int)) : Int × Int) H
def qa5.ann : Ann := { keep := fun r => match r with | 2 => [(2, .int .i64), (7, .int .i64)] | _ => [], ord := fun r => match r with  | _ => [] }
theorem qa5.link {x0 : Sl} {H : AH} {k : Int → AH → Prop} (h : qa5.b x0 H k) : qa5 x0 H k := lk1 pan hT hm Tryz.func158 (by kernel_rfl) (A := qa5.ann) (by kernel_rfl) (by simp) (by kernel_rfl) h
def qA.j1 (x0 : Option Addr) (k : Int → AH → Prop) (Hj : AH) : Prop :=
 qan x0 false Hj fun n28 H28 => k n28 H28
def qA.b (x0 : Option Addr) (x1 : Int) (x2 : Int) (H : AH) (k : Int → AH → Prop) : Prop :=
 qao x0 x1 H fun b10 H10 => bcase (!b10) (k (1 : Int) H10) (onPtr x0 fun a14 => elB (AH.cell? H10 (qkm a14 39)) fun b16 => bcase b16 (k (2 : Int) H10) (qav x0 H10 fun n18 H18 => bcase (((andI .i64 n18 (1 : Int)) : Int) == (1 : Int)) (onPtr x0 fun a24 => (0 ≤ x1 ∧ x1 < ((35 : Nat) : Int)) ∧ stC H18 (qkm (qkm a24 1) (qku x1 * 1)) [(qki .u64 x2)] fun Hs2 => qA.j1 x0 k Hs2) (qA.j1 x0 k H18)))
theorem qA.link {x0 : Option Addr} {x1 : Int} {x2 : Int} {H : AH} {k : Int → AH → Prop} (h : qA.b x0 x1 x2 H k) : qA x0 x1 x2 H k := lk1 pan hT hm Tryz.func41 (by kernel_rfl) (A := ann0) (by kernel_rfl) (by simp) (by kernel_rfl) h
def qah.l1 (x0 : Option Addr) (x1 : Int) (k : Int → AH → Prop) (o5 : Nat) (t11 : Int × Int) (HL11 : AH) (it11 : (Int × Int) → AH → Prop) : Prop :=
 onPtr x0 fun a43 => elI .i64 (AH.cell? HL11 (qkm a43 2)) fun n45 => bcase (decide ((t11.2 : Int) < n45)) (onPtr x0 fun a53 => elP (AH.cell? HL11 (qkm a53 0)) fun p55 => onPtr x0 fun a57 => elI .i64 (AH.cell? HL11 (qkm a57 1)) fun n59 => ldA HL11 ⟨o5, 0, none⟩ 8 fun c62 => qI p55 (qkl .i64 (n59 + t11.2)) c62 HL11 fun n63 H63 => bcase ((n63 : Int) == (0 : Int)) (onPtr x0 fun a69 => elP (AH.cell? H63 (qkm a69 0)) fun p71 => qA p71 (qkl .i64 ((3 : Int) + t11.2)) (qkl .u64 ((qkl .u64 x1) + (1 : Int))) H63 fun n75 H75 => k n75 H75) (bcase ((n63 : Int) == (3 : Int)) (onPtr x0 fun a79 => elI .i64 (AH.cell? H63 (qkm a79 1)) fun n81 => qbC n81 H63 fun n82 H82 => onPtr x0 fun a84 => elP (AH.cell? H82 (qkm a84 0)) fun p86 => qA p86 (qkl .i64 ((3 : Int) + t11.2)) n82 H82 fun n90 H90 => bcase ((n90 : Int) != (0 : Int)) (k n90 H90) (it11 (t11.1, (qkl .i64 (t11.2 + (1 : Int)))) H90)) (k n63 H63))) (k (3 : Int) HL11)
def qah.b (x0 : Option Addr) (x1 : Int) (x2 : List Value) (H : AH) (k : Int → AH → Prop) : Prop :=
 newC H ⟨x2, .rw, 0⟩ fun o5 H5 => qab x0 x1 H5 fun n19a s19b n19c H19 => bcase ((n19c : Int) != (0 : Int)) (k n19c H19) (onPtr x0 fun a27 => elP (AH.cell? H19 (qkm a27 0)) fun p29 => ldA H19 ⟨o5, 0, none⟩ 8 fun c31 => qI p29 n19a c31 H19 fun n32 H32 => bcase ((n32 : Int) != (3 : Int)) (k n32 H32) (qa5 s19b H32 fun n37 H37 => bcase (decide ((n37 : Int) < (0 : Int))) (k (3 : Int) H37) (loopT (qah.l1 x0 x1 k o5) (((0 : Int), n37) : Int × Int) H37)))
def qah.ann : Ann := { keep := fun r => match r with | 11 => [(6, .int .i64), (12, .int .i64)] | _ => [], ord := fun r => match r with | 4 => [0, 1, 2, 3, 4, 5, 6, 7] | 14 => [0, 1, 2, 3, 4, 5, 6, 7, 8, 9, 10, 11, 12] | _ => [] }
theorem qah.link {x0 : Option Addr} {x1 : Int} {x2 : List Value} {H : AH} {k : Int → AH → Prop} (h : qah.b x0 x1 x2 H k) : qah x0 x1 x2 H k := lk1 pan hT hm Tryz.func132 (by kernel_rfl) (A := qah.ann) (by kernel_rfl) (by simp) (by kernel_rfl) h
def qbb.b (x0 : Option Addr) (H : AH) (k : Int → AH → Prop) : Prop :=
 qaO x0 H fun n10 H10 => onPtr x0 fun a13 => elI .i64 (AH.cell? H10 (qkm a13 2)) fun n15 => qcg n15 n10 H10 fun n17a n17b H17 => onPtr x0 fun a22 => elP (AH.cell? H17 (qkm a22 1)) fun p24 => qbg p24 n17a H17 fun c26a n26b H26 => newC H26 ⟨[(qki .u64 (0 : Int)), (qki .u64 (0 : Int)), (qki .u64 (0 : Int)), (qki .u64 (0 : Int)), (qki .u64 (0 : Int)), (qki .u64 (0 : Int)), (qki .u64 (0 : Int)), (qki .u64 (0 : Int))], .rw, 0⟩ fun o6 H6 => (qkx c26a = 8 ∧ qk7 c26a qq = true) ∧ stC H6 ⟨o6, 0, none⟩ c26a fun Hs2 => bcase ((n26b : Int) != (0 : Int)) (k n26b Hs2) (onPtr x0 fun a33 => elP (AH.cell? Hs2 (qkm a33 1)) fun p35 => ldA Hs2 ⟨o6, 0, none⟩ 8 fun c37 => qah p35 n17b c37 Hs2 fun n38 H38 => bcase ((n38 : Int) != (0 : Int)) (k n38 H38) (onPtr x0 fun a43 => elP (AH.cell? H38 (qkm a43 0)) fun p45 => qA p45 (0 : Int) (qkl .u64 ((qkl .u64 n10) + (1 : Int))) H38 fun n49 H49 => k n49 H49))
def qbb.ann : Ann := { keep := fun r => match r with  | _ => [], ord := fun r => match r with | 6 => [0, 1, 2, 3, 4, 5, 6, 7] | _ => [] }
theorem qbb.link {x0 : Option Addr} {H : AH} {k : Int → AH → Prop} (h : qbb.b x0 H k) : qbb x0 H k := lk1 pan hT hm Tryz.func131 (by kernel_rfl) (A := qbb.ann) (by kernel_rfl) (by simp) (by kernel_rfl) h
def qak.j1 (x0 : Option Addr) (x1 : Int) (k : Int → AH → Prop) (o5 : Nat) (Hj : AH) : Prop :=
 onPtr x0 fun a40 => elP (AH.cell? Hj (qkm a40 1)) fun p42 => onPtr x0 fun a44 => elI .i64 (AH.cell? Hj (qkm a44 2)) fun n46 => ldA Hj ⟨o5, 0, none⟩ 8 fun c51 => qaO x0 Hj fun n48 H48 => AH.row? H48 ⟨o5, 0, none⟩ 8 = some c51 ∧ AH.cell? H48 (qkm a44 2) = some (qki .i64 n46) ∧ AH.cell? H48 (qkm a40 1) = some (qkq p42) ∧ qbn n46 n48 x1 H48 fun n50 H50 => AH.row? H50 ⟨o5, 0, none⟩ 8 = some c51 ∧ AH.cell? H50 (qkm a40 1) = some (qkq p42) ∧ qah p42 n50 c51 H50 fun n52 H52 => k n52 H52
def qak.b (x0 : Option Addr) (x1 : Int) (x2 : List Value) (H : AH) (k : Int → AH → Prop) : Prop :=
 newC H ⟨x2, .rw, 0⟩ fun o5 H5 => qaE x0 x1 H5 fun n11 H11 => bcase ((n11 : Int) != (0 : Int)) (k n11 H11) (onPtr x0 fun a16 => elI .i64 (AH.cell? H11 (qkm a16 4)) fun n18 => onPtr x0 fun a20 => stC H11 (qkm a20 4) [(qki .i64 (qkl .i64 (n18 + (1 : Int))))] fun Hs2 => onPtr x0 fun a23 => elI .i64 (AH.cell? Hs2 (qkm a23 4)) fun n25 => onPtr x0 fun a27 => elI .i64 (AH.cell? Hs2 (qkm a27 3)) fun n29 => bcase ((n25 : Int) == n29) (onPtr x0 fun a32 => stC Hs2 (qkm a32 4) [(qki .i64 (0 : Int))] fun Hs4 => qbb x0 Hs4 fun n35 H35 => bcase ((n35 : Int) != (0 : Int)) (k n35 H35) (qak.j1 x0 x1 k o5 H35)) (qak.j1 x0 x1 k o5 Hs2))
def qak.ann : Ann := { keep := fun r => match r with  | _ => [], ord := fun r => match r with | 5 => [0, 1, 2, 3, 4, 5, 6, 7, 8] | 10 => [0, 1, 2, 3, 4, 5, 6, 7, 8, 10, 12, 9, 11, 13, 14] | _ => [] }
theorem qak.link {x0 : Option Addr} {x1 : Int} {x2 : List Value} {H : AH} {k : Int → AH → Prop} (h : qak.b x0 x1 x2 H k) : qak x0 x1 x2 H k := lk1 pan hT hm Tryz.func87 (by kernel_rfl) (A := qak.ann) (by kernel_rfl) (by simp) (by kernel_rfl) h
def qv.j1 (k : Int → AH → Prop) (t14 : Int × Int) (it14 : (Int × Int) → AH → Prop) (x13 : Int) (Hj : AH) : Prop :=
 bcase ((x13 : Int) != (0 : Int)) (k x13 Hj) (it14 (t14.1, (qkl .i64 (t14.2 + (1 : Int)))) Hj)
def qv.j2 (k : Int → AH → Prop) (o3 : Nat) (p34 : Option Addr) (s37 : Sl) (t14 : Int × Int) (it14 : (Int × Int) → AH → Prop) (n48b : Int) (x59 : Bool) (Hj : AH) : Prop :=
 bcase x59 (ldA Hj ⟨o3, 0, none⟩ 4 fun c61 => qa3 c61 t14.2 Hj fun n63 H63 => qaX s37 t14.2 H63 fun c66 H66 => qak p34 n63 c66 H66 fun n67 H67 => qv.j1 k t14 it14 n67 H67) (qv.j1 k t14 it14 n48b Hj)
def qv.l3 (k : Int → AH → Prop) (o3 : Nat) (p34 : Option Addr) (s37 : Sl) (n39 : Int) (t14 : Int × Int) (HL14 : AH) (it14 : (Int × Int) → AH → Prop) : Prop :=
 bcase (decide ((t14.2 : Int) < n39)) (ldA HL14 ⟨o3, 0, none⟩ 4 fun c45 => qa3 c45 t14.2 HL14 fun n47 H47 => qaF p34 n47 H47 fun c48a n48b H48 => newC H48 ⟨[(qki .u64 (0 : Int)), (qki .u64 (0 : Int)), (qki .u64 (0 : Int)), (qki .u64 (0 : Int)), (qki .u64 (0 : Int)), (qki .u64 (0 : Int)), (qki .u64 (0 : Int)), (qki .u64 (0 : Int))], .rw, 0⟩ fun o12 H12 => (qkx c48a = 8 ∧ qk7 c48a qq = true) ∧ stC H12 ⟨o12, 0, none⟩ c48a fun Hs2 => bcase ((n48b : Int) == (0 : Int)) (ldA Hs2 ⟨o12, 0, none⟩ 8 fun c54 => qaX s37 t14.2 Hs2 fun c57 H57 => AH.row? H57 ⟨o12, 0, none⟩ 8 = some c54 ∧ elO (eqCells (List.replicate 8 (K.int .u64)) c54 c57) fun e58 => qv.j2 k o3 p34 s37 t14 it14 n48b (!e58) H57) (qv.j2 k o3 p34 s37 t14 it14 n48b false Hs2)) (k (0 : Int) HL14)
def qv.j4 (x0 : Option Addr) (k : Int → AH → Prop) (o3 : Nat) (t5 : Int × Int) (HL5 : AH) : Prop :=
 ldA HL5 ⟨o3, 0, none⟩ 4 fun c33 => qbi x0 c33 HL5 fun p34 H34 => ldA H34 ⟨o3, 0, none⟩ 4 fun c35 => qbV c35 H34 fun n36 H36 => qbK n36 H36 fun s37 H37 => elI .i64 (AH.cell? H37 (qkm ⟨o3, 0, none⟩ 0)) fun n39 => loopT (qv.l3 k o3 p34 s37 n39) ((t5.1, (0 : Int)) : Int × Int) H37
def qv.l5 (x0 : Option Addr) (k : Int → AH → Prop) (o3 : Nat) (t5 : Int × Int) (HL5 : AH) (it5 : (Int × Int) → AH → Prop) : Prop :=
 bcase (decide ((t5.2 : Int) < (35 : Int))) (qB x0 t5.2 HL5 fun n26a n26b H26 => bcase ((n26a : Int) != (0 : Int)) (k (5 : Int) H26) (it5 (t5.1, (qkl .i64 (t5.2 + (1 : Int)))) H26)) (qv.j4 x0 k o3 t5 HL5)
def qv.b (x0 : Option Addr) (x1 : List Value) (H : AH) (k : Int → AH → Prop) : Prop :=
 newC H ⟨x1, .rw, 0⟩ fun o3 H3 => ldA H3 ⟨o3, 0, none⟩ 4 fun c15 => qaw x0 c15 H3 fun n16 H16 => bcase ((n16 : Int) != (0 : Int)) (k n16 H16) (loopT (qv.l5 x0 k o3) (((0 : Int), (0 : Int)) : Int × Int) H16)
def qv.ann : Ann := { keep := fun r => match r with | 5 => [(4, .int .i64), (20, .int .i64)] | 14 => [(4, .int .i64), (40, .int .i64)] | _ => [], ord := fun r => match r with | 17 => [0, 1, 2, 3, 4, 5, 6, 7, 8] | _ => [] }
theorem qv.link {x0 : Option Addr} {x1 : List Value} {H : AH} {k : Int → AH → Prop} (h : qv.b x0 x1 H k) : qv x0 x1 H k := lk1 pan hT hm Tryz.func30 (by kernel_rfl) (A := qv.ann) (by kernel_rfl) (by simp) (by kernel_rfl) h
def qar.b (x0 : Option Addr) (H : AH) (k : Int → AH → Prop) : Prop :=
 bcase (qk2 x0) (k (0 : Int) H) (onPtr x0 fun a6 => elI .i64 (AH.cell? H (qkm a6 2)) fun n8 => k n8 H)
theorem qar.link {x0 : Option Addr} {H : AH} {k : Int → AH → Prop} (h : qar.b x0 H k) : qar x0 H k := lk1 pan hT hm Tryz.func105 (by kernel_rfl) (A := ann0) (by kernel_rfl) (by simp) (by kernel_rfl) h
def log_New.j1 (x0 : Option Addr) (x1 : Option Addr) (k : Option Addr → AH → Prop) (x15 : Bool) (Hj : AH) : Prop :=
 bcase x15 (k none Hj) (newC Hj ⟨[(qkq x0), (qkq x1)], .rw, 0⟩ fun o19 H19 => k (some ⟨o19, 0, none⟩) H19)
def log_New.b (x0 : Option Addr) (x1 : Option Addr) (H : AH) (k : Option Addr → AH → Prop) : Prop :=
 bcase (qk2 x0) (log_New.j1 x0 x1 k true H) (bcase (qk2 x1) (log_New.j1 x0 x1 k true H) (qar x1 H fun n13 H13 => log_New.j1 x0 x1 k (decide ((n13 : Int) ≤ (16 : Int))) H13))
theorem log_New.link {x0 : Option Addr} {x1 : Option Addr} {H : AH} {k : Option Addr → AH → Prop} (h : log_New.b x0 x1 H k) : log_New x0 x1 H k := lk1 pan hT hm Tryz.func74 (by kernel_rfl) (A := ann0) (by kernel_rfl) (by simp) (by kernel_rfl) h
def qbQ.b (x0 : Int) (H : AH) (k : Int → AH → Prop) : Prop :=
 ((8 : Int) : Int) ≠ 0 ∧ k (qkl .i64 (qlH (qkl .i64 ((qkl .i64 (x0 + (8 : Int))) - (1 : Int))) (8 : Int))) H
theorem qbQ.link {x0 : Int} {H : AH} {k : Int → AH → Prop} (h : qbQ.b x0 H k) : qbQ x0 H k := lk1 pan hT hm Tryz.func145 (by kernel_rfl) (A := ann0) (by kernel_rfl) (by simp) (by kernel_rfl) h
def qZ.j1 (t8 : Sl × Int × Sl × Int) (it8 : (Sl × Int × Sl × Int) → AH → Prop) (o10 : Nat) (H71 : AH) (x11 : Int) : Prop :=
 ldA H71 ⟨o10, 0, none⟩ 8 fun c78 => (qkx c78 = 8) ∧ (qkx (setMany [(qki .i64 x11), (qki .u64 (0 : Int)), (qki .u64 (0 : Int)), (qki .u64 (0 : Int)), (qki .u64 (0 : Int)), (qki .u64 (0 : Int)), (qki .u64 (0 : Int)), (qki .u64 (0 : Int)), (qki .u64 (0 : Int))] 1 c78) = 9) ∧ newC H71 ⟨(setMany [(qki .i64 (0 : Int)), (qki .u64 (0 : Int)), (qki .u64 (0 : Int)), (qki .u64 (0 : Int)), (qki .u64 (0 : Int)), (qki .u64 (0 : Int)), (qki .u64 (0 : Int)), (qki .u64 (0 : Int)), (qki .u64 (0 : Int))] 0 (setMany [(qki .i64 x11), (qki .u64 (0 : Int)), (qki .u64 (0 : Int)), (qki .u64 (0 : Int)), (qki .u64 (0 : Int)), (qki .u64 (0 : Int)), (qki .u64 (0 : Int)), (qki .u64 (0 : Int)), (qki .u64 (0 : Int))] 1 c78)), .rw, 9⟩ fun o80 H80 => appendC 9 H80 t8.2.2.1 ⟨(some ⟨o80, 0, none⟩), 1, 1⟩ fun s81 H81 => it8 (t8.1, t8.2.1, s81, (qkl .i64 (t8.2.2.2 + (1 : Int)))) H81
def qZ.l2 (x0 : Option Addr) (k : Sl → Int → AH → Prop) (n18a : Int) (t8 : Sl × Int × Sl × Int) (HL8 : AH) (it8 : (Sl × Int × Sl × Int) → AH → Prop) : Prop :=
 bcase (decide ((t8.2.2.2 : Int) < (qkl .i64 n18a))) (onPtr x0 fun a35 => elP (AH.cell? HL8 (qkm a35 1)) fun p37 => ((8 : Int) : Int) ≠ 0 ∧ qaF p37 (qkl .i64 (qlH t8.2.2.2 (8 : Int))) HL8 fun c40a n40b H40 => newC H40 ⟨[(qki .u64 (0 : Int)), (qki .u64 (0 : Int)), (qki .u64 (0 : Int)), (qki .u64 (0 : Int)), (qki .u64 (0 : Int)), (qki .u64 (0 : Int)), (qki .u64 (0 : Int)), (qki .u64 (0 : Int))], .rw, 0⟩ fun o8 H8 => (qkx c40a = 8 ∧ qk7 c40a qq = true) ∧ stC H8 ⟨o8, 0, none⟩ c40a fun Hs2 => bcase ((n40b : Int) != (0 : Int)) (k ⟨none, 0, 0⟩ n40b Hs2) (onPtr x0 fun a48 => elP (AH.cell? Hs2 (qkm a48 1)) fun p50 => newC Hs2 ⟨[(qki .u64 (0 : Int)), (qki .u64 (0 : Int)), (qki .u64 (0 : Int)), (qki .u64 (0 : Int)), (qki .u64 (0 : Int)), (qki .u64 (0 : Int)), (qki .u64 (0 : Int)), (qki .u64 (0 : Int))], .rw, 0⟩ fun o10 H10 => qbQ (qkl .i64 n18a) H10 fun n53 H53 => AH.cell? H53 (qkm a48 1) = some (qkq p50) ∧ qaF p50 (qkl .i64 (n53 + t8.2.2.2)) H53 fun c56a n56b H56 => (qkx c56a = 8 ∧ qk7 c56a qq = true) ∧ stC H56 ⟨o10, 0, none⟩ c56a fun Hs4 => bcase ((n56b : Int) != (0 : Int)) (k ⟨none, 0, 0⟩ n56b Hs4) (((8 : Int) : Int) ≠ 0 ∧ (0 ≤ (Int.tmod t8.2.2.2 (8 : Int)) ∧ (Int.tmod t8.2.2.2 (8 : Int)) < ((8 : Nat) : Int)) ∧ elI .u64 (AH.cell? Hs4 (qkm ⟨o8, 0, none⟩ (qku (Int.tmod t8.2.2.2 (8 : Int)) * 1))) fun n65 => onPtr x0 fun a68 => elP (AH.cell? Hs4 (qkm a68 1)) fun p70 => qar p70 Hs4 fun n71 H71 => bcase (decide ((n65 : Int) < (qkl .u64 n71))) (qZ.j1 t8 it8 o10 H71 (qkl .i64 n65)) (qZ.j1 t8 it8 o10 H71 (-1 : Int))))) (k t8.2.2.1 (0 : Int) HL8)
def qZ.b (x0 : Option Addr) (H : AH) (k : Sl → Int → AH → Prop) : Prop :=
 onPtr x0 fun a15 => elP (AH.cell? H (qkm a15 0)) fun p17 => qB p17 (1 : Int) H fun n18a n18b H18 => bcase ((n18b : Int) != (0 : Int)) (k ⟨none, 0, 0⟩ n18b H18) (bcase (decide ((n18a : Int) > (14 : Int))) (k ⟨none, 0, 0⟩ (6 : Int) H18) (loopT (qZ.l2 x0 k n18a) ((⟨none, 0, 0⟩, (0 : Int), ⟨none, 0, 0⟩, (0 : Int)) : Sl × Int × Sl × Int) H18))
def qZ.ann : Ann := { keep := fun r => match r with | 8 => [(2, .sl), (3, .int .i64), (6, .sl), (30, .int .i64)] | _ => [], ord := fun r => match r with | 13 => [0, 1, 2, 3, 4, 5, 7, 13, 6, 8, 9, 10, 11, 12, 14, 15] | _ => [] }
theorem qZ.link {x0 : Option Addr} {H : AH} {k : Sl → Int → AH → Prop} (h : qZ.b x0 H k) : qZ x0 H k := lk2 pan hT hm Tryz.func106 (by kernel_rfl) (A := qZ.ann) (by kernel_rfl) (by simp) (by simp) (by kernel_rfl) h
def qad.j1 (x0 : Option Addr) (k : Int → AH → Prop) (HL2 : AH) : Prop :=
 onPtr x0 fun a31 => elP (AH.cell? HL2 (qkm a31 0)) fun p33 => qA p33 (1 : Int) (0 : Int) HL2 fun n34 H34 => k n34 H34
def qad.l2 (x0 : Option Addr) (x1 : Sl) (k : Int → AH → Prop) (t2 : Int × Int) (HL2 : AH) (it2 : (Int × Int) → AH → Prop) : Prop :=
 bcase (decide ((t2.2 : Int) < ((x1.n : Nat) : Int))) ((0 ≤ t2.2 ∧ t2.2 < ((x1.n : Nat) : Int)) ∧ onPtr x1.a fun a12 => ldA HL2 (qkm a12 (qku t2.2 * 9)) 9 fun c13 => newC HL2 ⟨[(qki .i64 (0 : Int)), (qki .u64 (0 : Int)), (qki .u64 (0 : Int)), (qki .u64 (0 : Int)), (qki .u64 (0 : Int)), (qki .u64 (0 : Int)), (qki .u64 (0 : Int)), (qki .u64 (0 : Int)), (qki .u64 (0 : Int))], .rw, 0⟩ fun o6 H6 => (qkx c13 = 9 ∧ qk7 c13 qq = true) ∧ stC H6 ⟨o6, 0, none⟩ c13 fun Hs2 => onPtr x0 fun a15 => elP (AH.cell? Hs2 (qkm a15 1)) fun p17 => elI .i64 (AH.cell? Hs2 (qkm ⟨o6, 0, none⟩ 0)) fun n19 => ldA Hs2 (qkm ⟨o6, 0, none⟩ 1) 8 fun c21 => qak p17 n19 c21 Hs2 fun n22 H22 => bcase ((n22 : Int) == (0 : Int)) (it2 (t2.1, (qkl .i64 (t2.2 + (1 : Int)))) H22) (bcase ((n22 : Int) == (3 : Int)) (k (0 : Int) H22) (k n22 H22))) (qad.j1 x0 k HL2)
def qad.b (x0 : Option Addr) (x1 : Sl) (H : AH) (k : Int → AH → Prop) : Prop :=
 loopT (qad.l2 x0 x1 k) (((0 : Int), (0 : Int)) : Int × Int) H
def qad.ann : Ann := { keep := fun r => match r with | 2 => [(4, .int .i64), (10, .int .i64)] | _ => [], ord := fun r => match r with | 4 => [0, 1, 2, 3, 4, 5, 6, 7, 8, 9] | _ => [] }
theorem qad.link {x0 : Option Addr} {x1 : Sl} {H : AH} {k : Int → AH → Prop} (h : qad.b x0 x1 H k) : qad x0 x1 H k := lk1 pan hT hm Tryz.func122 (by kernel_rfl) (A := qad.ann) (by kernel_rfl) (by simp) (by kernel_rfl) h
def qbx.b (x0 : Option Addr) (H : AH) (k : Int → AH → Prop) : Prop :=
 bcase (qk2 x0) (k (1 : Int) H) (qZ x0 H fun s9a n9b H9 => bcase ((n9b : Int) != (0 : Int)) (k n9b H9) (bcase ((((s9a.n : Nat) : Int) : Int) == (0 : Int)) (k (0 : Int) H9) (onPtr x0 fun a22 => elP (AH.cell? H9 (qkm a22 1)) fun p24 => qar p24 H9 fun n25 H25 => log_May n25 s9a H25 fun b27 H27 => bcase (!b27) (k (6 : Int) H27) (qad x0 s9a H27 fun n31 H31 => k n31 H31))))
theorem qbx.link {x0 : Option Addr} {H : AH} {k : Int → AH → Prop} (h : qbx.b x0 H k) : qbx x0 H k := lk1 pan hT hm Tryz.func75 (by kernel_rfl) (A := ann0) (by kernel_rfl) (by simp) (by kernel_rfl) h
def qX.j1 (x0 : Option Addr) (x1 : Int) (k : List Value → Int → AH → Prop) (o4 : Nat) (x5 : Int) (Hj : AH) : Prop :=
 onPtr x0 fun a56 => elP (AH.cell? Hj (qkm a56 1)) fun p58 => qaF p58 x1 Hj fun c60a n60b H60 => (qkx c60a = 8 ∧ qk7 c60a qq = true) ∧ stC H60 ⟨o4, 0, none⟩ c60a fun Hs6 => ldA Hs6 ⟨o4, 0, none⟩ 8 fun r0 => k r0 n60b Hs6
def qX.l2 (x0 : Option Addr) (x1 : Int) (k : List Value → Int → AH → Prop) (o4 : Nat) (s28a : Sl) (t8 : Int × Int) (HL8 : AH) (it8 : (Int × Int) → AH → Prop) : Prop :=
 bcase (decide ((t8.2 : Int) < ((s28a.n : Nat) : Int))) ((0 ≤ t8.2 ∧ t8.2 < ((s28a.n : Nat) : Int)) ∧ onPtr s28a.a fun a46 => ldA HL8 (qkm a46 (qku t8.2 * 9)) 9 fun c47 => newC HL8 ⟨[(qki .i64 (0 : Int)), (qki .u64 (0 : Int)), (qki .u64 (0 : Int)), (qki .u64 (0 : Int)), (qki .u64 (0 : Int)), (qki .u64 (0 : Int)), (qki .u64 (0 : Int)), (qki .u64 (0 : Int)), (qki .u64 (0 : Int))], .rw, 0⟩ fun o9 H9 => (qkx c47 = 9 ∧ qk7 c47 qq = true) ∧ stC H9 ⟨o9, 0, none⟩ c47 fun Hs8 => elI .i64 (AH.cell? Hs8 (qkm ⟨o9, 0, none⟩ 0)) fun n49 => bcase ((n49 : Int) == x1) (ldA Hs8 (qkm ⟨o9, 0, none⟩ 1) 8 fun c53 => (qkx c53 = 8 ∧ qk7 c53 qq = true) ∧ stC Hs8 ⟨o4, 0, none⟩ c53 fun Hs10 => ldA Hs10 ⟨o4, 0, none⟩ 8 fun r0 => k r0 (0 : Int) Hs10) (it8 (t8.1, (qkl .i64 (t8.2 + (1 : Int)))) Hs8)) (qX.j1 x0 x1 k o4 t8.1 HL8)
def qX.j3 (x0 : Option Addr) (x1 : Int) (k : List Value → Int → AH → Prop) (o4 : Nat) (x24 : Bool) (Hj : AH) : Prop :=
 bcase x24 ((qkx [(qki .u64 (0 : Int)), (qki .u64 (0 : Int)), (qki .u64 (0 : Int)), (qki .u64 (0 : Int)), (qki .u64 (0 : Int)), (qki .u64 (0 : Int)), (qki .u64 (0 : Int)), (qki .u64 (0 : Int))] = 8 ∧ qk7 [(qki .u64 (0 : Int)), (qki .u64 (0 : Int)), (qki .u64 (0 : Int)), (qki .u64 (0 : Int)), (qki .u64 (0 : Int)), (qki .u64 (0 : Int)), (qki .u64 (0 : Int)), (qki .u64 (0 : Int))] qq = true) ∧ stC Hj ⟨o4, 0, none⟩ [(qki .u64 (0 : Int)), (qki .u64 (0 : Int)), (qki .u64 (0 : Int)), (qki .u64 (0 : Int)), (qki .u64 (0 : Int)), (qki .u64 (0 : Int)), (qki .u64 (0 : Int)), (qki .u64 (0 : Int))] fun Hs2 => ldA Hs2 ⟨o4, 0, none⟩ 8 fun r0 => k r0 (1 : Int) Hs2) (qZ x0 Hj fun s28a n28b H28 => bcase ((n28b : Int) == (2 : Int)) ((qkx [(qki .u64 (0 : Int)), (qki .u64 (0 : Int)), (qki .u64 (0 : Int)), (qki .u64 (0 : Int)), (qki .u64 (0 : Int)), (qki .u64 (0 : Int)), (qki .u64 (0 : Int)), (qki .u64 (0 : Int))] = 8 ∧ qk7 [(qki .u64 (0 : Int)), (qki .u64 (0 : Int)), (qki .u64 (0 : Int)), (qki .u64 (0 : Int)), (qki .u64 (0 : Int)), (qki .u64 (0 : Int)), (qki .u64 (0 : Int)), (qki .u64 (0 : Int))] qq = true) ∧ stC H28 ⟨o4, 0, none⟩ [(qki .u64 (0 : Int)), (qki .u64 (0 : Int)), (qki .u64 (0 : Int)), (qki .u64 (0 : Int)), (qki .u64 (0 : Int)), (qki .u64 (0 : Int)), (qki .u64 (0 : Int)), (qki .u64 (0 : Int))] fun Hs4 => ldA Hs4 ⟨o4, 0, none⟩ 8 fun r0 => k r0 n28b Hs4) (onPtr x0 fun a36 => elP (AH.cell? H28 (qkm a36 1)) fun p38 => qar p38 H28 fun n39 H39 => log_May n39 s28a H39 fun b41 H41 => bcase b41 (loopT (qX.l2 x0 x1 k o4 s28a) (((0 : Int), (0 : Int)) : Int × Int) H41) (qX.j1 x0 x1 k o4 (0 : Int) H41)))
def qX.b (x0 : Option Addr) (x1 : Int) (H : AH) (k : List Value → Int → AH → Prop) : Prop :=
 newC H ⟨[(qki .u64 (0 : Int)), (qki .u64 (0 : Int)), (qki .u64 (0 : Int)), (qki .u64 (0 : Int)), (qki .u64 (0 : Int)), (qki .u64 (0 : Int)), (qki .u64 (0 : Int)), (qki .u64 (0 : Int))], .rw, 0⟩ fun o4 H4 => bcase (qk2 x0) (qX.j3 x0 x1 k o4 true H4) (bcase (decide ((x1 : Int) < (16 : Int))) (qX.j3 x0 x1 k o4 true H4) (onPtr x0 fun a19 => elP (AH.cell? H4 (qkm a19 1)) fun p21 => qar p21 H4 fun n22 H22 => qX.j3 x0 x1 k o4 (decide ((x1 : Int) ≥ n22)) H22))
def qX.ann : Ann := { keep := fun r => match r with | 8 => [(5, .int .i64), (44, .int .i64)] | _ => [], ord := fun r => match r with  | _ => [] }
theorem qX.link {x0 : Option Addr} {x1 : Int} {H : AH} {k : List Value → Int → AH → Prop} (h : qX.b x0 x1 H k) : qX x0 x1 H k := lk2 pan hT hm Tryz.func55 (by kernel_rfl) (A := qX.ann) (by kernel_rfl) (by simp) (by simp) (by kernel_rfl) h
def qG.l1 (x0 : Option Addr) (k : Sl → Int → AH → Prop) (n14 : Int) (t5 : Sl × Int × Sl × Int) (HL5 : AH) (it5 : (Sl × Int × Sl × Int) → AH → Prop) : Prop :=
 bcase (decide ((t5.2.2.2 : Int) < n14)) (onPtr x0 fun a20 => elP (AH.cell? HL5 (qkm a20 6)) fun p22 => onPtr x0 fun a24 => ldA HL5 (qkm a24 1) 4 fun c26 => newC HL5 ⟨[(qki .u64 (0 : Int)), (qki .u64 (0 : Int)), (qki .u64 (0 : Int)), (qki .u64 (0 : Int)), (qki .u64 (0 : Int)), (qki .u64 (0 : Int)), (qki .u64 (0 : Int)), (qki .u64 (0 : Int))], .rw, 0⟩ fun o6 H6 => qa3 c26 t5.2.2.2 H6 fun n28 H28 => AH.cell? H28 (qkm a20 6) = some (qkq p22) ∧ qX p22 n28 H28 fun c29a n29b H29 => (qkx c29a = 8 ∧ qk7 c29a qq = true) ∧ stC H29 ⟨o6, 0, none⟩ c29a fun Hs2 => bcase ((n29b : Int) != (0 : Int)) (k ⟨none, 0, 0⟩ n29b Hs2) (appendC 1 Hs2 t5.2.2.1 ⟨(some ⟨o6, 0, none⟩), 8, 0⟩ fun s37 H37 => it5 (t5.1, t5.2.1, s37, (qkl .i64 (t5.2.2.2 + (1 : Int)))) H37)) (k t5.2.2.1 (0 : Int) HL5)
def qG.b (x0 : Option Addr) (H : AH) (k : Sl → Int → AH → Prop) : Prop :=
 bcase (qk2 x0) (k ⟨none, 0, 0⟩ (1 : Int) H) (onPtr x0 fun a11 => elI .i64 (AH.cell? H (qkm (qkm a11 1) 0)) fun n14 => loopT (qG.l1 x0 k n14) ((⟨none, 0, 0⟩, (0 : Int), ⟨none, 0, 0⟩, (0 : Int)) : Sl × Int × Sl × Int) H)
def qG.ann : Ann := { keep := fun r => match r with | 5 => [(2, .sl), (3, .int .i64), (4, .sl), (15, .int .i64)] | _ => [], ord := fun r => match r with | 7 => [0, 1, 2, 3, 4, 5, 6, 7, 8, 14, 9, 10, 11, 12, 13, 15, 16] | _ => [] }
theorem qG.link {x0 : Option Addr} {H : AH} {k : Sl → Int → AH → Prop} (h : qG.b x0 H k) : qG x0 H k := lk2 pan hT hm Tryz.func18 (by kernel_rfl) (A := qG.ann) (by kernel_rfl) (by simp) (by simp) (by kernel_rfl) h
def qaZ.j1 (x0 : Int) (k : Int → Bool → Bool → AH → Prop) (x14 : Bool) (Hj : AH) : Prop :=
 bcase x14 (k (0 : Int) false false Hj) ((0 : Int) ≤ (1 : Int) ∧ k (qkl .i64 (shrI .u64 x0 (1 : Int))) (((andI .u64 x0 (1 : Int)) : Int) == (1 : Int)) true Hj)
def qaZ.b (x0 : Int) (H : AH) (k : Int → Bool → Bool → AH → Prop) : Prop :=
 (0 : Int) ≤ (1 : Int) ∧ bcase (decide (((shrI .u64 x0 (1 : Int)) : Int) > (512 : Int))) (qaZ.j1 x0 k true H) ((0 : Int) ≤ (1 : Int) ∧ qaV (qkl .i64 (shrI .u64 x0 (1 : Int))) H fun b12 H12 => qaZ.j1 x0 k (!b12) H12)
theorem qaZ.link {x0 : Int} {H : AH} {k : Int → Bool → Bool → AH → Prop} (h : qaZ.b x0 H k) : qaZ x0 H k := lk3 pan hT hm Tryz.func123 (by kernel_rfl) (A := ann0) (by kernel_rfl) (by simp) (by simp) (by simp) (by kernel_rfl) h
def qR.j1 (k : Bool → AH → Prop) (t5 : Bool × Int × Bool × Int) (it5 : (Bool × Int × Bool × Int) → AH → Prop) (o8 : Nat) (x43 : Bool) (Hj : AH) : Prop :=
 bcase x43 (k false Hj) (elI .i64 (AH.cell? Hj (qkm ⟨o8, 0, none⟩ 1)) fun n46 => elB (AH.cell? Hj (qkm ⟨o8, 0, none⟩ 2)) fun b49 => it5 (t5.1, (qkl .i64 (t5.2.1 + n46)), (!b49), (qkl .i64 (t5.2.2.2 + (1 : Int)))) Hj)
def qR.l2 (x0 : Sl) (x1 : Int) (k : Bool → AH → Prop) (t5 : Bool × Int × Bool × Int) (HL5 : AH) (it5 : (Bool × Int × Bool × Int) → AH → Prop) : Prop :=
 bcase (decide ((t5.2.2.2 : Int) < ((x0.n : Nat) : Int))) ((0 ≤ t5.2.2.2 ∧ t5.2.2.2 < ((x0.n : Nat) : Int)) ∧ onPtr x0.a fun a16 => ldA HL5 (qkm a16 (qku t5.2.2.2 * 3)) 3 fun c17 => newC HL5 ⟨[(qki .i64 (0 : Int)), (qki .i64 (0 : Int)), (qlh false)], .rw, 0⟩ fun o8 H8 => (qkx c17 = 3 ∧ qk7 c17 qq = true) ∧ stC H8 ⟨o8, 0, none⟩ c17 fun Hs2 => elI .i64 (AH.cell? Hs2 (qkm ⟨o8, 0, none⟩ 0)) fun n19 => bcase ((n19 : Int) != t5.2.1) (qR.j1 k t5 it5 o8 true Hs2) (elI .i64 (AH.cell? Hs2 (qkm ⟨o8, 0, none⟩ 1)) fun n24 => qaV n24 Hs2 fun b25 H25 => bcase (!b25) (qR.j1 k t5 it5 o8 true H25) (bcase t5.2.2.1 (elB (AH.cell? H25 (qkm ⟨o8, 0, none⟩ 2)) fun b32 => bcase (!b32) (qR.j1 k t5 it5 o8 true H25) (elI .i64 (AH.cell? H25 (qkm ⟨o8, 0, none⟩ 1)) fun n38 => qR.j1 k t5 it5 o8 (decide ((n38 : Int) > (qkl .i64 (x1 - t5.2.1)))) H25)) (elI .i64 (AH.cell? H25 (qkm ⟨o8, 0, none⟩ 1)) fun n38 => qR.j1 k t5 it5 o8 (decide ((n38 : Int) > (qkl .i64 (x1 - t5.2.1)))) H25)))) (k ((t5.2.1 : Int) == x1) HL5)
def qR.b (x0 : Sl) (x1 : Int) (H : AH) (k : Bool → AH → Prop) : Prop :=
 qaM x1 H fun b10 H10 => bcase (!b10) (k false H10) (loopT (qR.l2 x0 x1 k) ((false, (0 : Int), false, (0 : Int)) : Bool × Int × Bool × Int) H10)
def qR.ann : Ann := { keep := fun r => match r with | 5 => [(4, .bool), (5, .int .i64), (6, .bool), (14, .int .i64)] | _ => [], ord := fun r => match r with  | _ => [] }
theorem qR.link {x0 : Sl} {x1 : Int} {H : AH} {k : Bool → AH → Prop} (h : qR.b x0 x1 H k) : qR x0 x1 H k := lk1 pan hT hm Tryz.func124 (by kernel_rfl) (A := qR.ann) (by kernel_rfl) (by simp) (by kernel_rfl) h
def qJ.j1 (x0 : Sl) (k : Sl → Bool → AH → Prop) (t3 : Sl × Bool × Sl × Int) (HL3 : AH) : Prop :=
 qR t3.2.2.1 ((x0.n : Nat) : Int) HL3 fun b37 H37 => bcase (!b37) (k ⟨none, 0, 0⟩ false H37) (k t3.2.2.1 true H37)
def qJ.l2 (x0 : Sl) (k : Sl → Bool → AH → Prop) (t3 : Sl × Bool × Sl × Int) (HL3 : AH) (it3 : (Sl × Bool × Sl × Int) → AH → Prop) : Prop :=
 bcase (decide ((t3.2.2.2 : Int) < ((x0.n : Nat) : Int))) ((0 ≤ t3.2.2.2 ∧ t3.2.2.2 < ((x0.n : Nat) : Int)) ∧ onPtr x0.a fun a16 => elI .u64 (AH.cell? HL3 (qkm a16 (qku t3.2.2.2 * 1))) fun n17 => qaZ n17 HL3 fun n18a b18b b18c H18 => bcase (!b18c) (k ⟨none, 0, 0⟩ false H18) ((qkx [(qki .i64 t3.2.2.2), (qki .i64 n18a), (qlh b18b)] = 3) ∧ newC H18 ⟨[(qki .i64 t3.2.2.2), (qki .i64 n18a), (qlh b18b)], .rw, 3⟩ fun o29 H29 => appendC 3 H29 t3.2.2.1 ⟨(some ⟨o29, 0, none⟩), 1, 1⟩ fun s30 H30 => it3 (t3.1, t3.2.1, s30, (qkl .i64 (t3.2.2.2 + n18a))) H30)) (qJ.j1 x0 k t3 HL3)
def qJ.b (x0 : Sl) (H : AH) (k : Sl → Bool → AH → Prop) : Prop :=
 loopT (qJ.l2 x0 k) ((⟨none, 0, 0⟩, false, ⟨none, 0, 0⟩, (0 : Int)) : Sl × Bool × Sl × Int) H
def qJ.ann : Ann := { keep := fun r => match r with | 3 => [(2, .sl), (3, .bool), (4, .sl), (5, .int .i64)] | _ => [], ord := fun r => match r with  | _ => [] }
theorem qJ.link {x0 : Sl} {H : AH} {k : Sl → Bool → AH → Prop} (h : qJ.b x0 H k) : qJ x0 H k := lk2 pan hT hm Tryz.func77 (by kernel_rfl) (A := qJ.ann) (by kernel_rfl) (by simp) (by simp) (by kernel_rfl) h
def qaW.j1 (k : Int → AH → Prop) (o1 : Nat) (H1 : AH) (x10 : Bool) : Prop :=
 bcase x10 (k (0 : Int) H1) (elI .i64 (AH.cell? H1 (qkm ⟨o1, 0, none⟩ 0)) fun n12 => k (qkl .i64 ((qkl .i64 (n12 + (1 : Int))) * (8 : Int))) H1)
def qaW.b (x0 : List Value) (H : AH) (k : Int → AH → Prop) : Prop :=
 newC H ⟨x0, .rw, 0⟩ fun o1 H1 => elI .i64 (AH.cell? H1 (qkm ⟨o1, 0, none⟩ 0)) fun n4 => bcase (decide ((n4 : Int) < (0 : Int))) (qaW.j1 k o1 H1 true) (elI .i64 (AH.cell? H1 (qkm ⟨o1, 0, none⟩ 0)) fun n8 => qaW.j1 k o1 H1 (decide ((n8 : Int) > (512 : Int))))
theorem qaW.link {x0 : List Value} {H : AH} {k : Int → AH → Prop} (h : qaW.b x0 H k) : qaW x0 H k := lk1 pan hT hm Tryz.func136 (by kernel_rfl) (A := ann0) (by kernel_rfl) (by simp) (by kernel_rfl) h
def qa7.b (x0 : List Value) (x1 : Option Addr) (H : AH) (k : Bool → AH → Prop) : Prop :=
 newC H ⟨x0, .rw, 0⟩ fun o2 H2 => elB (AH.cell? H2 (qkm ⟨o2, 0, none⟩ 2)) fun b5 => bcase b5 (ldA H2 ⟨o2, 0, none⟩ 3 fun c7 => onPtr x1 fun a9 => elI .i64 (AH.cell? H2 a9) fun n9 => qaW c7 H2 fun n8 H8 => AH.cell? H8 a9 = some (qki .i64 n9) ∧ k ((n8 : Int) == n9) H8) (k false H2)
def qa7.ann : Ann := { keep := fun r => match r with  | _ => [], ord := fun r => match r with | 1 => [0, 1, 2, 3, 5, 4, 6, 7, 8] | _ => [] }
theorem qa7.link {x0 : List Value} {x1 : Option Addr} {H : AH} {k : Bool → AH → Prop} (h : qa7.b x0 x1 H k) : qa7 x0 x1 H k := lk1 pan hT hm Tryz.func150 (by kernel_rfl) (A := qa7.ann) (by kernel_rfl) (by simp) (by kernel_rfl) h
def qbE.b (x0 : Sl) (x1 : Int) (H : AH) (k : Sl → Int → AH → Prop) : Prop :=
 newC H ⟨[(qki .i64 x1)], .rw, 0⟩ fun o3 H3 => qJ x0 H3 fun s10a b10b H10 => qu s10a (some ⟨o3, 0, none⟩) H10 fun n16 H16 => k s10a n16 H16
theorem qbE.link {x0 : Sl} {x1 : Int} {H : AH} {k : Sl → Int → AH → Prop} (h : qbE.b x0 x1 H k) : qbE x0 x1 H k := lk2 pan hT hm Tryz.func125 (by kernel_rfl) (A := ann0) (by kernel_rfl) (by simp) (by simp) (by kernel_rfl) h
def qbT.b (x0 : Sl) (x1 : Int) (H : AH) (k : Bool → AH → Prop) : Prop :=
 qbE x0 x1 H fun s10a n10b H10 => k (decide ((n10b : Int) ≥ (0 : Int))) H10
theorem qbT.link {x0 : Sl} {x1 : Int} {H : AH} {k : Bool → AH → Prop} (h : qbT.b x0 x1 H k) : qbT x0 x1 H k := lk1 pan hT hm Tryz.func78 (by kernel_rfl) (A := ann0) (by kernel_rfl) (by simp) (by kernel_rfl) h
def qbO.b (x0 : Int) (H : AH) (k : Int → AH → Prop) : Prop :=
 ((4 : Int) : Int) ≠ 0 ∧ k (qkl .i64 (qlH (if (0 : Int) > x0 then (0 : Int) else x0) (4 : Int))) H
theorem qbO.link {x0 : Int} {H : AH} {k : Int → AH → Prop} (h : qbO.b x0 H k) : qbO x0 H k := lk1 pan hT hm Tryz.func95 (by kernel_rfl) (A := ann0) (by kernel_rfl) (by simp) (by kernel_rfl) h
def qbW.b (x0 : List Value) (H : AH) (k : Int → AH → Prop) : Prop :=
 newC H ⟨x0, .rw, 0⟩ fun o1 H1 => ldA H1 ⟨o1, 0, none⟩ 4 fun c3 => qaT c3 H1 fun b4 H4 => bcase (!b4) (k (0 : Int) H4) (elI .i64 (AH.cell? H4 (qkm ⟨o1, 0, none⟩ 0)) fun n7 => qbO (qkl .i64 (n7 - (1 : Int))) H4 fun n9 H9 => k (qkl .i64 (n9 + (1 : Int))) H9)
theorem qbW.link {x0 : List Value} {H : AH} {k : Int → AH → Prop} (h : qbW.b x0 H k) : qbW x0 H k := lk1 pan hT hm Tryz.func45 (by kernel_rfl) (A := ann0) (by kernel_rfl) (by simp) (by kernel_rfl) h
def qaJ.l1 (x1 : Sl) (k : Option Addr → AH → Prop) (o21 : Nat) (t5 : Int) (HL5 : AH) (it5 : (Int) → AH → Prop) : Prop :=
 bcase (decide ((t5 : Int) < ((x1.n : Nat) : Int))) ((0 ≤ t5 ∧ t5 < ((x1.n : Nat) : Int)) ∧ onPtr x1.a fun a26 => elI .i64 (AH.cell? HL5 (qkm a26 (qku t5 * 1))) fun n27 => elL (AH.cell? HL5 (qkm ⟨o21, 0, none⟩ 1)) fun s36 => newC HL5 ⟨[(qki .i64 (if (1099511627776 : Int) < (if (0 : Int) > n27 then (0 : Int) else n27) then (1099511627776 : Int) else (if (0 : Int) > n27 then (0 : Int) else n27)))], .rw, 1⟩ fun o38 H38 => elL (AH.cell? H38 (qkm ⟨o21, 0, none⟩ 2)) fun s43 => newC H38 ⟨[(qki .i64 (if (1099511627776 : Int) < (if (0 : Int) > n27 then (0 : Int) else n27) then (1099511627776 : Int) else (if (0 : Int) > n27 then (0 : Int) else n27)))], .rw, 1⟩ fun o45 H45 => appendC 1 H45 s36 ⟨(some ⟨o38, 0, none⟩), 1, 1⟩ fun s39 H39 => AH.cell? H39 (qkm ⟨o21, 0, none⟩ 2) = some (Sl.val s43) ∧ appendC 1 H39 s43 ⟨(some ⟨o45, 0, none⟩), 1, 1⟩ fun s46 H46 => stC H46 (qkm ⟨o21, 0, none⟩ 1) [(Sl.val s39)] fun Hs2 => stC Hs2 (qkm ⟨o21, 0, none⟩ 2) [(Sl.val s46)] fun Hs4 => it5 (qkl .i64 (t5 + (1 : Int))) Hs4) (k (some ⟨o21, 0, none⟩) HL5)
def qaJ.j2 (x0 : Int) (x1 : Sl) (H : AH) (k : Option Addr → AH → Prop) (x18 : Bool) : Prop :=
 bcase x18 (k none H) (newC H ⟨[(qki .i64 x0), (qkS none 0 0), (qkS none 0 0)], .rw, 0⟩ fun o21 H21 => loopT (qaJ.l1 x1 k o21) (((0 : Int)) : Int) H21)
def qaJ.b (x0 : Int) (x1 : Sl) (H : AH) (k : Option Addr → AH → Prop) : Prop :=
 bcase (decide ((x0 : Int) < (1 : Int))) (qaJ.j2 x0 x1 H k true) (bcase (decide ((x0 : Int) > (100 : Int))) (qaJ.j2 x0 x1 H k true) (qaJ.j2 x0 x1 H k (decide ((((x1.n : Nat) : Int) : Int) > (16 : Int)))))
def qaJ.ann : Ann := { keep := fun r => match r with | 5 => [(24, .int .i64)] | _ => [], ord := fun r => match r with | 8 => [0, 1, 2, 3, 4, 5, 6, 7, 9, 10, 11, 12, 13, 14, 8, 15, 16, 17, 18, 19, 20, 21] | _ => [] }
theorem qaJ.link {x0 : Int} {x1 : Sl} {H : AH} {k : Option Addr → AH → Prop} (h : qaJ.b x0 x1 H k) : qaJ x0 x1 H k := lk1 pan hT hm Tryz.func79 (by kernel_rfl) (A := qaJ.ann) (by kernel_rfl) (by simp) (by kernel_rfl) h
def qS.j1 (k : Option Addr → Int → AH → Prop) (o3 : Nat) (o30 : Nat) (t22 : Option Addr × Int × Sl × Int) (HL22 : AH) : Prop :=
 elI .i64 (AH.cell? HL22 (qkm ⟨o3, 0, none⟩ 3)) fun n115 => qaJ n115 t22.2.2.1 HL22 fun p117 H117 => stC H117 (qkm ⟨o30, 0, none⟩ 7) [(qkq p117)] fun Hs4 => k (some ⟨o30, 0, none⟩) (0 : Int) Hs4
def qS.l2 (x0 : Option Addr) (k : Option Addr → Int → AH → Prop) (o3 : Nat) (o30 : Nat) (n92 : Int) (t22 : Option Addr × Int × Sl × Int) (HL22 : AH) (it22 : (Option Addr × Int × Sl × Int) → AH → Prop) : Prop :=
 bcase (decide ((t22.2.2.2 : Int) < n92)) (qB x0 (qkl .i64 ((19 : Int) + t22.2.2.2)) HL22 fun n100a n100b H100 => bcase ((n100b : Int) != (0 : Int)) (k none n100b H100) (newC H100 ⟨[(qki .i64 (qkl .i64 (if (1099511627776 : Int) < n100a then (1099511627776 : Int) else n100a)))], .rw, 1⟩ fun o110 H110 => appendC 1 H110 t22.2.2.1 ⟨(some ⟨o110, 0, none⟩), 1, 1⟩ fun s111 H111 => it22 (t22.1, t22.2.1, s111, (qkl .i64 (t22.2.2.2 + (1 : Int)))) H111)) (qS.j1 k o3 o30 t22 HL22)
def qS.j3 (x0 : Option Addr) (k : Option Addr → Int → AH → Prop) (o3 : Nat) (o30 : Nat) (x90 : Bool) (Hj : AH) : Prop :=
 bcase x90 (k none (6 : Int) Hj) (ldA Hj ⟨o3, 0, none⟩ 4 fun c91 => qbW c91 Hj fun n92 H92 => loopT (qS.l2 x0 k o3 o30 n92) ((none, (0 : Int), ⟨none, 0, 0⟩, (0 : Int)) : Option Addr × Int × Sl × Int) H92)
def qS.b (x0 : Option Addr) (x1 : List Value) (H : AH) (k : Option Addr → Int → AH → Prop) : Prop :=
 newC H ⟨x1, .rw, 0⟩ fun o3 H3 => ldA H3 ⟨o3, 0, none⟩ 4 fun c19 => qaw x0 c19 H3 fun n20 H20 => bcase ((n20 : Int) != (0 : Int)) (k none n20 H20) (ldA H20 ⟨o3, 0, none⟩ 4 fun c25 => ldA H20 ⟨o3, 0, none⟩ 4 fun c27 => qbi x0 c27 H20 fun p28 H28 => AH.row? H28 ⟨o3, 0, none⟩ 4 = some c25 ∧ (qkx c25 = 4) ∧ newC H28 ⟨(List.set (setMany [(qkq x0), (qki .i64 (0 : Int)), (qki .i64 (0 : Int)), (qki .i64 (0 : Int)), (qki .i64 (0 : Int)), (qkq none), (qkq none), (qkq none), (qlh false)] 1 c25) 5 (qkq p28)), .rw, 0⟩ fun o30 H30 => elP (AH.cell? H30 (qkm ⟨o30, 0, none⟩ 5)) fun p36 => log_New x0 p36 H30 fun p37 H37 => stC H37 (qkm ⟨o30, 0, none⟩ 6) [(qkq p37)] fun Hs2 => elP (AH.cell? Hs2 (qkm ⟨o30, 0, none⟩ 6)) fun p43 => bcase (qk2 p43) (k none (6 : Int) Hs2) (elP (AH.cell? Hs2 (qkm ⟨o30, 0, none⟩ 6)) fun p48 => qbx p48 Hs2 fun n49 H49 => bcase ((n49 : Int) != (0 : Int)) (k none n49 H49) (qG (some ⟨o30, 0, none⟩) H49 fun s55a n55b H55 => bcase ((n55b : Int) != (0 : Int)) (k none n55b H55) (qB x0 (2 : Int) H55 fun n63a n63b H63 => bcase ((n63b : Int) != (0 : Int)) (k none n63b H63) (qJ s55a H63 fun s71a b71b H71 => bcase (!b71b) (qS.j3 x0 k o3 o30 true H71) (bcase ((n63a : Int) != (0 : Int)) (bcase (decide ((n63a : Int) > (1048576 : Int))) (qS.j3 x0 k o3 o30 true H71) (qbT s55a (qkl .i64 n63a) H71 fun b86 H86 => qS.j3 x0 k o3 o30 (!b86) H86)) (qS.j3 x0 k o3 o30 false H71)))))))
def qS.ann : Ann := { keep := fun r => match r with | 22 => [(4, .ptr), (5, .int .i64), (14, .sl), (93, .int .i64)] | _ => [], ord := fun r => match r with | 4 => [0, 1, 2, 3, 4, 5, 6, 7] | _ => [] }
theorem qS.link {x0 : Option Addr} {x1 : List Value} {H : AH} {k : Option Addr → Int → AH → Prop} (h : qS.b x0 x1 H k) : qS x0 x1 H k := lk2 pan hT hm Tryz.func27 (by kernel_rfl) (A := qS.ann) (by kernel_rfl) (by simp) (by simp) (by kernel_rfl) h
def qaz.b (x0 : List Value) (x1 : Sl) (H : AH) (k : Option Addr → Option Addr → AH → Prop) : Prop :=
 newC H ⟨x0, .rw, 0⟩ fun o2 H2 => ldA H2 ⟨o2, 0, none⟩ 4 fun c9 => qaS c9 H2 fun n10 H10 => nvm_New n10 x1 H10 fun p12 H12 => ldA H12 ⟨o2, 0, none⟩ 4 fun c14 => qv p12 c14 H12 fun n15 H15 => bcase ((n15 : Int) != (0 : Int)) (k none p12 H15) (ldA H15 ⟨o2, 0, none⟩ 4 fun c20 => qS p12 c20 H15 fun p21a n21b H21 => bcase ((n21b : Int) != (0 : Int)) (k none p12 H21) (k p21a p12 H21))
theorem qaz.link {x0 : List Value} {x1 : Sl} {H : AH} {k : Option Addr → Option Addr → AH → Prop} (h : qaz.b x0 x1 H k) : qaz x0 x1 H k := lk2 pan hT hm Tryz.func15 (by kernel_rfl) (A := ann0) (by kernel_rfl) (by simp) (by simp) (by kernel_rfl) h
def qbl.b (x0 : Option Addr) (H : AH) (k : Bool → AH → Prop) : Prop :=
 bcase (qk2 x0) (k false H) (onPtr x0 fun a9 => elP (AH.cell? H (qkm a9 0)) fun p11 => qB p11 (1 : Int) H fun n12a n12b H12 => k ((n12a : Int) != (0 : Int)) H12)
theorem qbl.link {x0 : Option Addr} {H : AH} {k : Bool → AH → Prop} (h : qbl.b x0 H k) : qbl x0 H k := lk1 pan hT hm Tryz.func94 (by kernel_rfl) (A := ann0) (by kernel_rfl) (by simp) (by kernel_rfl) h
def qaD.b (x0 : Option Addr) (H : AH) (k : Bool → AH → Prop) : Prop :=
 bcase (!(qk2 x0)) (onPtr x0 fun a7 => elB (AH.cell? H (qkm a7 8)) fun b9 => bcase b9 (k true H) (onPtr x0 fun a12 => elP (AH.cell? H (qkm a12 6)) fun p14 => qbl p14 H fun b15 H15 => k b15 H15)) (k false H)
theorem qaD.link {x0 : Option Addr} {H : AH} {k : Bool → AH → Prop} (h : qaD.b x0 H k) : qaD x0 H k := lk1 pan hT hm Tryz.func44 (by kernel_rfl) (A := ann0) (by kernel_rfl) (by simp) (by kernel_rfl) h
def qat.b (x0 : Sl) (H : AH) (k : Sl → AH → Prop) : Prop :=
 bcase (qk2 x0.a) (k ⟨none, 0, 0⟩ H) (newC H ⟨[], .rw, 1⟩ fun o5 H5 => appendC 1 H5 ⟨(some ⟨o5, 0, none⟩), 0, 1⟩ x0 fun s7 H7 => k s7 H7)
theorem qat.link {x0 : Sl} {H : AH} {k : Sl → AH → Prop} (h : qat.b x0 H k) : qat x0 H k := lk1 pan hT hm Tryz.func108 (by kernel_rfl) (A := ann0) (by kernel_rfl) (by simp) (by kernel_rfl) h
def qbk.b (x0 : Option Addr) (H : AH) (k : Sl → AH → Prop) : Prop :=
 bcase (qk2 x0) (k ⟨none, 0, 0⟩ H) (onPtr x0 fun a6 => elL (AH.cell? H (qkm a6 1)) fun s8 => qat s8 H fun s9 H9 => k s9 H9)
theorem qbk.link {x0 : Option Addr} {H : AH} {k : Sl → AH → Prop} (h : qbk.b x0 H k) : qbk x0 H k := lk1 pan hT hm Tryz.func57 (by kernel_rfl) (A := ann0) (by kernel_rfl) (by simp) (by kernel_rfl) h
def qax.b (x0 : Option Addr) (H : AH) (k : Sl → AH → Prop) : Prop :=
 bcase (qk2 x0) (k ⟨none, 0, 0⟩ H) (onPtr x0 fun a6 => elP (AH.cell? H (qkm a6 7)) fun p8 => qbk p8 H fun s9 H9 => k s9 H9)
theorem qax.link {x0 : Option Addr} {H : AH} {k : Sl → AH → Prop} (h : qax.b x0 H k) : qax x0 H k := lk1 pan hT hm Tryz.func20 (by kernel_rfl) (A := ann0) (by kernel_rfl) (by simp) (by kernel_rfl) h
def qaQ.b (H : AH) (k : Bool → AH → Prop) : Prop :=
 qaz [(qki .i64 (4 : Int)), (qki .i64 (0 : Int)), (qki .i64 (3 : Int)), (qki .i64 (2 : Int))] ⟨none, 0, 0⟩ H fun p8a p8b H8 => bcase (qk2 p8a) (k false H8) (qo p8a [(qki .i64 (1 : Int)), (qki .i64 (0 : Int)), (qki .i64 (8 : Int)), (qki .i64 (0 : Int)), (qkS none 0 0)] H8 fun c15 H15 => newC H15 ⟨[(qki .i64 (0 : Int)), (qki .i64 (0 : Int)), (qkS none 0 0)], .rw, 0⟩ fun o3 H3 => (qkx c15 = 3 ∧ qk7 c15 qq = true) ∧ stC H3 ⟨o3, 0, none⟩ c15 fun Hs2 => newC Hs2 ⟨[(qki .u8 (7 : Int))], .rw, 1⟩ fun o17 H17 => qo p8a [(qki .i64 (4 : Int)), (qki .i64 (8 : Int)), (qki .i64 (0 : Int)), (qki .i64 (0 : Int)), (qkS (some ⟨o17, 0, none⟩) 1 1)] H17 fun c19 H19 => newC H19 ⟨[(qki .i64 (0 : Int)), (qki .i64 (0 : Int)), (qkS none 0 0)], .rw, 0⟩ fun o4 H4 => (qkx c19 = 3 ∧ qk7 c19 qq = true) ∧ stC H4 ⟨o4, 0, none⟩ c19 fun Hs4 => qo p8a [(qki .i64 (3 : Int)), (qki .i64 (8 : Int)), (qki .i64 (2 : Int)), (qki .i64 (0 : Int)), (qkS none 0 0)] Hs4 fun c22 H22 => newC H22 ⟨[(qki .i64 (0 : Int)), (qki .i64 (0 : Int)), (qkS none 0 0)], .rw, 0⟩ fun o5 H5 => (qkx c22 = 3 ∧ qk7 c22 qq = true) ∧ stC H5 ⟨o5, 0, none⟩ c22 fun Hs6 => elI .i64 (AH.cell? Hs6 (qkm ⟨o3, 0, none⟩ 0)) fun n24 => bcase ((n24 : Int) == (0 : Int)) (elI .i64 (AH.cell? Hs6 (qkm ⟨o3, 0, none⟩ 1)) fun n28 => bcase ((n28 : Int) == (8 : Int)) (elI .i64 (AH.cell? Hs6 (qkm ⟨o4, 0, none⟩ 0)) fun n33 => bcase ((n33 : Int) == (0 : Int)) (elL (AH.cell? Hs6 (qkm ⟨o5, 0, none⟩ 2)) fun s38 => strC Hs6 s38 fun y39 => bcase (ByteArray.toList ⟨qkP y39⟩ == ByteArray.toList ⟨#[7, 0]⟩) (qaD p8a Hs6 fun b44 H44 => bcase (!b44) (qax p8a H44 fun s49 H49 => k ((((s49.n : Nat) : Int) : Int) == (1 : Int)) H49) (k false H44)) (k false Hs6)) (k false Hs6)) (k false Hs6)) (k false Hs6))
theorem qaQ.link {_u : Unit} {H : AH} {k : Bool → AH → Prop} (h : qaQ.b  H k) : qaQ  H k := lk1 pan hT hm Tryz.func13 (by kernel_rfl) (A := ann0) (by kernel_rfl) (by simp) (by kernel_rfl) h
def qau.b (x0 : List Value) (x1 : List Value) (H : AH) (k : Bool → AH → Prop) : Prop :=
 newC H ⟨x0, .rw, 0⟩ fun o2 H2 => newC H2 ⟨x1, .rw, 0⟩ fun o3 H3 => elI .i64 (AH.cell? H3 (qkm ⟨o2, 0, none⟩ 0)) fun n6 => elI .i64 (AH.cell? H3 (qkm ⟨o3, 0, none⟩ 0)) fun n8 => bcase ((n6 : Int) == n8) (elI .i64 (AH.cell? H3 (qkm ⟨o2, 0, none⟩ 1)) fun n12 => elI .i64 (AH.cell? H3 (qkm ⟨o3, 0, none⟩ 1)) fun n14 => bcase ((n12 : Int) == n14) (elL (AH.cell? H3 (qkm ⟨o2, 0, none⟩ 2)) fun s19 => strC H3 s19 fun y20 => elL (AH.cell? H3 (qkm ⟨o3, 0, none⟩ 2)) fun s22 => strC H3 s22 fun y23 => k (ByteArray.toList ⟨qkP y20⟩ == ByteArray.toList ⟨qkP y23⟩) H3) (k false H3)) (k false H3)
theorem qau.link {x0 : List Value} {x1 : List Value} {H : AH} {k : Bool → AH → Prop} (h : qau.b x0 x1 H k) : qau x0 x1 H k := lk1 pan hT hm Tryz.func16 (by kernel_rfl) (A := ann0) (by kernel_rfl) (by simp) (by kernel_rfl) h
def qeB.ann : Ann := { keep := fun r => match r with  | _ => [], ord := fun r => match r with | 4 => [0, 1, 2, 4, 5, 6, 7, 8, 9, 10, 11, 3, 12, 13] | 6 => [0, 1, 2, 3, 4, 5, 6, 7, 8, 9, 10, 11, 12, 13, 14, 15, 16, 17, 18] | _ => [] }
def qeq.ann : Ann := { keep := fun r => match r with | 10 => [(9, .int .i64), (71, .int .i64)] | _ => [], ord := fun r => match r with | 14 => [0, 1, 2, 4, 5, 6, 7, 8, 9, 10, 11, 3, 12, 13] | _ => [] }
def qdU.ann : Ann := { keep := fun r => match r with | 3 => [(3, .sl), (10, .int .i64)] | 7 => [(7, .int .i64)] | _ => [], ord := fun r => match r with | 10 => [0, 1, 2, 4, 5, 7, 8, 9, 3, 6, 10, 11] | _ => [] }
def qbw.b (x0 : Option Addr) (H : AH) (k : Int → AH → Prop) : Prop :=
 bcase (qk2 x0) (k (0 : Int) H) (onPtr x0 fun a6 => elP (AH.cell? H (qkm a6 5)) fun p8 => qaO p8 H fun n9 H9 => k n9 H9)
theorem qbw.link {x0 : Option Addr} {H : AH} {k : Int → AH → Prop} (h : qbw.b x0 H k) : qbw x0 H k := lk1 pan hT hm Tryz.func29 (by kernel_rfl) (A := ann0) (by kernel_rfl) (by simp) (by kernel_rfl) h
def qbH.b (x0 : Option Addr) (H : AH) (k : Int → AH → Prop) : Prop :=
 bcase (qk2 x0) (k (0 : Int) H) (onPtr x0 fun a6 => elP (AH.cell? H (qkm a6 5)) fun p8 => qfZ p8 H fun n9 H9 => k n9 H9)
theorem qbH.link {x0 : Option Addr} {H : AH} {k : Int → AH → Prop} (h : qbH.b x0 H k) : qbH x0 H k := lk1 pan hT hm Tryz.func43 (by kernel_rfl) (A := ann0) (by kernel_rfl) (by simp) (by kernel_rfl) h
def qae.b (x0 : List Value) (H : AH) (k : Bool → AH → Prop) : Prop :=
 newC H ⟨x0, .rw, 0⟩ fun o1 H1 => elI .i64 (AH.cell? H1 (qkm ⟨o1, 0, none⟩ 0)) fun n4 => bcase (decide ((n4 : Int) ≥ (1 : Int))) (elI .i64 (AH.cell? H1 (qkm ⟨o1, 0, none⟩ 0)) fun n8 => bcase (decide ((n8 : Int) ≤ (64 : Int))) (elI .i64 (AH.cell? H1 (qkm ⟨o1, 0, none⟩ 1)) fun n13 => bcase (decide ((n13 : Int) ≥ (0 : Int))) (elI .i64 (AH.cell? H1 (qkm ⟨o1, 0, none⟩ 1)) fun n18 => bcase (decide ((n18 : Int) ≤ (16 : Int))) (elI .i64 (AH.cell? H1 (qkm ⟨o1, 0, none⟩ 2)) fun n23 => bcase (decide ((n23 : Int) ≥ (1 : Int))) (elI .i64 (AH.cell? H1 (qkm ⟨o1, 0, none⟩ 2)) fun n28 => bcase (decide ((n28 : Int) ≤ (1000 : Int))) (elI .i64 (AH.cell? H1 (qkm ⟨o1, 0, none⟩ 3)) fun n33 => bcase (decide ((n33 : Int) ≥ (1 : Int))) (elI .i64 (AH.cell? H1 (qkm ⟨o1, 0, none⟩ 3)) fun n38 => k (decide ((n38 : Int) ≤ (100 : Int))) H1) (k false H1)) (k false H1)) (k false H1)) (k false H1)) (k false H1)) (k false H1)) (k false H1)
theorem qae.link {x0 : List Value} {H : AH} {k : Bool → AH → Prop} (h : qae.b x0 H k) : qae x0 H k := lk1 pan hT hm Tryz.func46 (by kernel_rfl) (A := ann0) (by kernel_rfl) (by simp) (by kernel_rfl) h
def qaB.b (x0 : List Value) (H : AH) (k : Int → AH → Prop) : Prop :=
 newC H ⟨x0, .rw, 0⟩ fun o1 H1 => ldA H1 ⟨o1, 0, none⟩ 4 fun c3 => qae c3 H1 fun b4 H4 => bcase (!b4) (k (0 : Int) H4) (elI .i64 (AH.cell? H4 (qkm ⟨o1, 0, none⟩ 0)) fun n7 => elI .i64 (AH.cell? H4 (qkm ⟨o1, 0, none⟩ 1)) fun n11 => k (qkl .i64 ((qkl .i64 ((qkl .i64 ((16 : Int) + n7)) + (1 : Int))) + n11)) H4)
theorem qaB.link {x0 : List Value} {H : AH} {k : Int → AH → Prop} (h : qaB.b x0 H k) : qaB x0 H k := lk1 pan hT hm Tryz.func47 (by kernel_rfl) (A := ann0) (by kernel_rfl) (by simp) (by kernel_rfl) h
def qM.j1 (k : Bool → AH → Prop) (o2 : Nat) (o3 : Nat) (s17a : Sl) (n17b : Int) (p20 : Option Addr) (x9 : Bool) (Hj : AH) : Prop :=
 ldA Hj ⟨o3, 0, none⟩ 5 fun c29 => qo none c29 Hj fun c30 H30 => qau c30 [(qki .i64 (1 : Int)), (qki .i64 (0 : Int)), (qkS none 0 0)] H30 fun b32 H32 => bcase b32 (bcase ((((s17a.n : Nat) : Int) : Int) == (0 : Int)) (bcase ((n17b : Int) == (1 : Int)) (qax none H32 fun s44 H44 => qbw none H44 fun n47 H47 => qbH none H47 fun n50 H50 => bcase (((qkl .i64 ((qkl .i64 (((s44.n : Nat) : Int) + n47)) + n50)) : Int) == (0 : Int)) (qaD none H50 fun b56 H56 => bcase (!b56) (ldA H56 ⟨o2, 0, none⟩ 4 fun c60 => qv none c60 H56 fun n61 H61 => bcase ((n61 : Int) == (1 : Int)) (ldA H61 ⟨o2, 0, none⟩ 4 fun c66 => qv p20 c66 H61 fun n67 H67 => bcase (((n67 : Int) == (0 : Int)) == x9) (qaQ  H67 fun b73 H73 => k b73 H73) (k false H67)) (k false H61)) (k false H56)) (k false H50)) (k false H32)) (k false H32)) (k false H32)
def qM.b (x0 : List Value) (x1 : List Value) (H : AH) (k : Bool → AH → Prop) : Prop :=
 newC H ⟨x0, .rw, 0⟩ fun o2 H2 => newC H2 ⟨x1, .rw, 0⟩ fun o3 H3 => ldA H3 ⟨o3, 0, none⟩ 5 fun c10 => (qkx c10 = 5) ∧ newC H3 ⟨(setMany [(qki .i64 (0 : Int)), (qki .i64 (0 : Int)), (qki .i64 (0 : Int)), (qki .i64 (0 : Int)), (qkS none 0 0)] 0 c10), .rw, 5⟩ fun o11 H11 => qr ⟨(some ⟨o11, 0, none⟩), 1, 1⟩ ⟨none, 0, 0⟩ H11 fun n12 H12 => bcase (decide ((n12 : Int) > (0 : Int))) (qaQ  H12 fun b14 H14 => k b14 H14) (qG none H12 fun s17a n17b H17 => nvm_New (100 : Int) ⟨none, 0, 0⟩ H17 fun p20 H20 => ldA H20 ⟨o2, 0, none⟩ 4 fun c21 => qae c21 H20 fun b22 H22 => bcase b22 (ldA H22 ⟨o2, 0, none⟩ 4 fun c24 => qaB c24 H22 fun n25 H25 => qM.j1 k o2 o3 s17a n17b p20 ((n25 : Int) == (100 : Int)) H25) (qM.j1 k o2 o3 s17a n17b p20 false H22))
theorem qM.link {x0 : List Value} {x1 : List Value} {H : AH} {k : Bool → AH → Prop} (h : qM.b x0 x1 H k) : qM x0 x1 H k := lk1 pan hT hm Tryz.func11 (by kernel_rfl) (A := ann0) (by kernel_rfl) (by simp) (by kernel_rfl) h
def qY.b (x0 : Int) (H : AH) (pk : Value → AH → Prop) (k : AH → Prop) : Prop :=
 bcase ((x0 : Int) != (0 : Int)) (pk (Value.iface 37 (qki .i64 x0)) H) (k H)
theorem qY.link {x0 : Int} {H : AH} {pk : Value → AH → Prop} {k : AH → Prop} (h : qY.b x0 H pk k) : qY x0 H pk k := lk0 pan hT hm Tryz.func100 (by kernel_rfl) (A := ann0) (by kernel_rfl) (by kernel_rfl) h
def qaG.b (x0 : Option Addr) (H : AH) (pk : Value → AH → Prop) (k : Sl → AH → Prop) : Prop :=
 qG x0 H fun s7a n7b H7 => qY n7b H7 (fun pv11 Hp11 => pk pv11 Hp11) fun H11 => k s7a H11
theorem qaG.link {x0 : Option Addr} {H : AH} {pk : Value → AH → Prop} {k : Sl → AH → Prop} (h : qaG.b x0 H pk k) : qaG x0 H pk k := lk1 pan hT hm Tryz.func96 (by kernel_rfl) (A := ann0) (by kernel_rfl) (by simp) (by kernel_rfl) h
def qbt.j1 (x0 : Int) (H : AH) (k : Int → AH → Prop) (x8 : Bool) : Prop :=
 bcase x8 (k (0 : Int) H) (((8 : Int) : Int) ≠ 0 ∧ k (qkl .i64 ((qkl .i64 (qlH (qkl .i64 (x0 + (7 : Int))) (8 : Int))) + (1 : Int))) H)
def qbt.b (x0 : Int) (H : AH) (k : Int → AH → Prop) : Prop :=
 bcase (decide ((x0 : Int) < (1 : Int))) (qbt.j1 x0 H k true) (qbt.j1 x0 H k (decide ((x0 : Int) > (448 : Int))))
theorem qbt.link {x0 : Int} {H : AH} {k : Int → AH → Prop} (h : qbt.b x0 H k) : qbt x0 H k := lk1 pan hT hm Tryz.func97 (by kernel_rfl) (A := ann0) (by kernel_rfl) (by simp) (by kernel_rfl) h
def qaf.b (x0 : Option Addr) (H : AH) (pk : Value → AH → Prop) (k : AH → Prop) : Prop :=
 qaD x0 H fun b3 H3 => bcase b3 (pk (Value.iface 37 (qki .i64 (3 : Int))) H3) (k H3)
theorem qaf.link {x0 : Option Addr} {H : AH} {pk : Value → AH → Prop} {k : AH → Prop} (h : qaf.b x0 H pk k) : qaf x0 H pk k := lk0 pan hT hm Tryz.func98 (by kernel_rfl) (A := ann0) (by kernel_rfl) (by kernel_rfl) h
def qQ.j1 (t3 : Sl × Int) (it3 : (Sl × Int) → AH → Prop) (Hs2 : AH) (x5 : Sl) (x56 : Bool) : Prop :=
 bcase x56 (newC Hs2 ⟨[(qki .i64 t3.2)], .rw, 1⟩ fun o59 H59 => appendC 1 H59 x5 ⟨(some ⟨o59, 0, none⟩), 1, 1⟩ fun s60 H60 => it3 (s60, (qkl .i64 (t3.2 + (1 : Int)))) H60) (it3 (x5, (qkl .i64 (t3.2 + (1 : Int)))) Hs2)
def qQ.j2 (x0 : Sl) (t3 : Sl × Int) (it3 : (Sl × Int) → AH → Prop) (o7 : Nat) (Hs2 : AH) (x5 : Sl) : Prop :=
 bcase ((((x5.n : Nat) : Int) : Int) == (0 : Int)) (qQ.j1 t3 it3 Hs2 x5 true) (elI .i64 (AH.cell? Hs2 (qkm ⟨o7, 0, none⟩ 1)) fun n47 => (0 ≤ (0 : Int) ∧ (0 : Int) < ((x5.n : Nat) : Int)) ∧ onPtr x5.a fun a50 => elI .i64 (AH.cell? Hs2 (qkm a50 (qku (0 : Int) * 1))) fun n51 => (0 ≤ n51 ∧ n51 < ((x0.n : Nat) : Int)) ∧ onPtr x0.a fun a52 => elI .i64 (AH.cell? Hs2 (qkm (qkm a52 (qku n51 * 3)) 1)) fun n54 => qQ.j1 t3 it3 Hs2 x5 ((n47 : Int) == n54))
def qQ.j3 (x0 : Sl) (t3 : Sl × Int) (it3 : (Sl × Int) → AH → Prop) (o7 : Nat) (Hs2 : AH) (x41 : Bool) : Prop :=
 bcase x41 (qQ.j2 x0 t3 it3 o7 Hs2 ⟨none, 0, 0⟩) (qQ.j2 x0 t3 it3 o7 Hs2 t3.1)
def qQ.j4 (x0 : Sl) (t3 : Sl × Int) (it3 : (Sl × Int) → AH → Prop) (o7 : Nat) (Hs2 : AH) (x26 : Bool) : Prop :=
 bcase x26 (it3 (t3.1, (qkl .i64 (t3.2 + (1 : Int)))) Hs2) (bcase (decide ((((t3.1.n : Nat) : Int) : Int) > (0 : Int))) (elI .i64 (AH.cell? Hs2 (qkm ⟨o7, 0, none⟩ 1)) fun n32 => (0 ≤ (0 : Int) ∧ (0 : Int) < ((t3.1.n : Nat) : Int)) ∧ onPtr t3.1.a fun a35 => elI .i64 (AH.cell? Hs2 (qkm a35 (qku (0 : Int) * 1))) fun n36 => (0 ≤ n36 ∧ n36 < ((x0.n : Nat) : Int)) ∧ onPtr x0.a fun a37 => elI .i64 (AH.cell? Hs2 (qkm (qkm a37 (qku n36 * 3)) 1)) fun n39 => qQ.j3 x0 t3 it3 o7 Hs2 (decide ((n32 : Int) < n39))) (qQ.j3 x0 t3 it3 o7 Hs2 false))
def qQ.l5 (x0 : Sl) (x1 : Int) (k : Sl → AH → Prop) (t3 : Sl × Int) (HL3 : AH) (it3 : (Sl × Int) → AH → Prop) : Prop :=
 bcase (decide ((t3.2 : Int) < ((x0.n : Nat) : Int))) ((0 ≤ t3.2 ∧ t3.2 < ((x0.n : Nat) : Int)) ∧ onPtr x0.a fun a13 => ldA HL3 (qkm a13 (qku t3.2 * 3)) 3 fun c14 => newC HL3 ⟨[(qki .i64 (0 : Int)), (qki .i64 (0 : Int)), (qlh false)], .rw, 0⟩ fun o7 H7 => (qkx c14 = 3 ∧ qk7 c14 qq = true) ∧ stC H7 ⟨o7, 0, none⟩ c14 fun Hs2 => bcase (decide ((x1 : Int) < (2 : Int))) (qQ.j4 x0 t3 it3 o7 Hs2 true) (elB (AH.cell? Hs2 (qkm ⟨o7, 0, none⟩ 2)) fun b19 => bcase b19 (qQ.j4 x0 t3 it3 o7 Hs2 true) (elI .i64 (AH.cell? Hs2 (qkm ⟨o7, 0, none⟩ 1)) fun n23 => qQ.j4 x0 t3 it3 o7 Hs2 (decide ((n23 : Int) < x1))))) (k t3.1 HL3)
def qQ.b (x0 : Sl) (x1 : Int) (H : AH) (k : Sl → AH → Prop) : Prop :=
 loopT (qQ.l5 x0 x1 k) ((⟨none, 0, 0⟩, (0 : Int)) : Sl × Int) H
def qQ.ann : Ann := { keep := fun r => match r with | 3 => [(5, .sl), (10, .int .i64)] | _ => [], ord := fun r => match r with | 6 => [0, 1, 2, 3, 4, 5, 6, 7, 8, 9, 10, 11, 12, 13, 14] | 8 => [0, 1, 2, 3, 4, 5, 6, 7, 8, 9, 10, 11, 12, 13, 14] | _ => [] }
theorem qQ.link {x0 : Sl} {x1 : Int} {H : AH} {k : Sl → AH → Prop} (h : qQ.b x0 x1 H k) : qQ x0 x1 H k := lk1 pan hT hm Tryz.func162 (by kernel_rfl) (A := qQ.ann) (by kernel_rfl) (by simp) (by kernel_rfl) h
def qbc.j1 (x1 : Sl) (k : Int → AH → Prop) (o2 : Nat) (H2 : AH) (x15 : Bool) : Prop :=
 bcase x15 (k (0 : Int) H2) (elI .i64 (AH.cell? H2 (qkm ⟨o2, 0, none⟩ 0)) fun n18 => ((32 : Int) : Int) ≠ 0 ∧ (0 ≤ (qkl .i64 (qlH n18 (32 : Int))) ∧ (qkl .i64 (qlH n18 (32 : Int))) < ((x1.n : Nat) : Int)) ∧ onPtr x1.a fun a20 => elI .i64 (AH.cell? H2 (qkm a20 (qku (qkl .i64 (qlH n18 (32 : Int))) * 1))) fun n21 => k n21 H2)
def qbc.b (x0 : List Value) (x1 : Sl) (H : AH) (k : Int → AH → Prop) : Prop :=
 newC H ⟨x0, .rw, 0⟩ fun o2 H2 => elI .i64 (AH.cell? H2 (qkm ⟨o2, 0, none⟩ 0)) fun n6 => bcase (decide ((n6 : Int) < (0 : Int))) (qbc.j1 x1 k o2 H2 true) (elI .i64 (AH.cell? H2 (qkm ⟨o2, 0, none⟩ 0)) fun n10 => ((32 : Int) : Int) ≠ 0 ∧ qbc.j1 x1 k o2 H2 (decide (((qkl .i64 (qlH n10 (32 : Int))) : Int) ≥ ((x1.n : Nat) : Int))))
theorem qbc.link {x0 : List Value} {x1 : Sl} {H : AH} {k : Int → AH → Prop} (h : qbc.b x0 x1 H k) : qbc x0 x1 H k := lk1 pan hT hm Tryz.func163 (by kernel_rfl) (A := ann0) (by kernel_rfl) (by simp) (by kernel_rfl) h
def qap.j1 (t3 : Int × Int) (it3 : (Int × Int) → AH → Prop) (n19 : Int) (H34 : AH) (x55 : Bool) : Prop :=
 bcase x55 (it3 (n19, (qkl .i64 (t3.2 + (1 : Int)))) H34) (it3 (t3.1, (qkl .i64 (t3.2 + (1 : Int)))) H34)
def qap.l2 (x0 : Sl) (x2 : Sl) (k : Int → AH → Prop) (s14 : Sl) (t3 : Int × Int) (HL3 : AH) (it3 : (Int × Int) → AH → Prop) : Prop :=
 bcase (decide ((t3.2 : Int) < ((s14.n : Nat) : Int))) ((0 ≤ t3.2 ∧ t3.2 < ((s14.n : Nat) : Int)) ∧ onPtr s14.a fun a18 => elI .i64 (AH.cell? HL3 (qkm a18 (qku t3.2 * 1))) fun n19 => bcase (decide ((t3.1 : Int) < (0 : Int))) (it3 (n19, (qkl .i64 (t3.2 + (1 : Int)))) HL3) ((0 ≤ n19 ∧ n19 < ((x0.n : Nat) : Int)) ∧ onPtr x0.a fun a25 => ldA HL3 (qkm a25 (qku n19 * 3)) 3 fun c26 => (0 ≤ t3.1 ∧ t3.1 < ((x0.n : Nat) : Int)) ∧ onPtr x0.a fun a31 => ldA HL3 (qkm a31 (qku t3.1 * 3)) 3 fun c32 => qbc c26 x2 HL3 fun n28 H28 => AH.row? H28 (qkm a31 (qku t3.1 * 3)) 3 = some c32 ∧ qbc c32 x2 H28 fun n34 H34 => bcase (decide ((n28 : Int) < n34)) (qap.j1 t3 it3 n19 H34 true) (bcase ((n28 : Int) == n34) ((0 ≤ n19 ∧ n19 < ((x0.n : Nat) : Int)) ∧ onPtr x0.a fun a45 => elI .i64 (AH.cell? H34 (qkm (qkm a45 (qku n19 * 3)) 0)) fun n47 => (0 ≤ t3.1 ∧ t3.1 < ((x0.n : Nat) : Int)) ∧ onPtr x0.a fun a50 => elI .i64 (AH.cell? H34 (qkm (qkm a50 (qku t3.1 * 3)) 0)) fun n52 => qap.j1 t3 it3 n19 H34 (decide ((n47 : Int) < n52))) (qap.j1 t3 it3 n19 H34 false)))) (k t3.1 HL3)
def qap.b (x0 : Sl) (x1 : Int) (x2 : Sl) (H : AH) (k : Int → AH → Prop) : Prop :=
 qQ x0 x1 H fun s14 H14 => loopT (qap.l2 x0 x2 k s14) (((-1 : Int), (0 : Int)) : Int × Int) H14
def qap.ann : Ann := { keep := fun r => match r with | 3 => [(7, .int .i64), (16, .int .i64)] | _ => [], ord := fun r => match r with | 7 => [0, 1, 2, 3, 4, 6, 7, 8, 9, 10, 5, 11, 12, 13] | 8 => [0, 1, 2, 3, 4, 5, 6, 7, 8, 9, 10, 11, 12, 13, 14, 15, 16, 17, 18, 19, 20] | _ => [] }
theorem qap.link {x0 : Sl} {x1 : Int} {x2 : Sl} {H : AH} {k : Int → AH → Prop} (h : qap.b x0 x1 x2 H k) : qap x0 x1 x2 H k := lk1 pan hT hm Tryz.func134 (by kernel_rfl) (A := qap.ann) (by kernel_rfl) (by simp) (by kernel_rfl) h
def qaq.j1 (k : Int → AH → Prop) (t3 : Int × Int × Int) (it3 : (Int × Int × Int) → AH → Prop) (o5 : Nat) (H14 : AH) (x19 : Bool) : Prop :=
 bcase x19 (k (0 : Int) H14) (elI .i64 (AH.cell? H14 (qkm ⟨o5, 0, none⟩ 1)) fun n22 => it3 (t3.1, (qkl .i64 (t3.2.1 + n22)), (qkl .i64 (t3.2.2 + (1 : Int)))) H14)
def qaq.l2 (x0 : Sl) (k : Int → AH → Prop) (t3 : Int × Int × Int) (HL3 : AH) (it3 : (Int × Int × Int) → AH → Prop) : Prop :=
 bcase (decide ((t3.2.2 : Int) < ((x0.n : Nat) : Int))) ((0 ≤ t3.2.2 ∧ t3.2.2 < ((x0.n : Nat) : Int)) ∧ onPtr x0.a fun a10 => ldA HL3 (qkm a10 (qku t3.2.2 * 3)) 3 fun c11 => newC HL3 ⟨[(qki .i64 (0 : Int)), (qki .i64 (0 : Int)), (qlh false)], .rw, 0⟩ fun o5 H5 => (qkx c11 = 3 ∧ qk7 c11 qq = true) ∧ stC H5 ⟨o5, 0, none⟩ c11 fun Hs2 => elI .i64 (AH.cell? Hs2 (qkm ⟨o5, 0, none⟩ 1)) fun n13 => qaV n13 Hs2 fun b14 H14 => bcase (!b14) (qaq.j1 k t3 it3 o5 H14 true) (qaq.j1 k t3 it3 o5 H14 (decide ((t3.2.1 : Int) > (512 : Int))))) (k t3.2.1 HL3)
def qaq.b (x0 : Sl) (H : AH) (k : Int → AH → Prop) : Prop :=
 loopT (qaq.l2 x0 k) (((0 : Int), (0 : Int), (0 : Int)) : Int × Int × Int) H
def qaq.ann : Ann := { keep := fun r => match r with | 3 => [(2, .int .i64), (3, .int .i64), (8, .int .i64)] | _ => [], ord := fun r => match r with  | _ => [] }
theorem qaq.link {x0 : Sl} {H : AH} {k : Int → AH → Prop} (h : qaq.b x0 H k) : qaq x0 H k := lk1 pan hT hm Tryz.func178 (by kernel_rfl) (A := qaq.ann) (by kernel_rfl) (by simp) (by kernel_rfl) h
def qby.j1 (x0 : Int) (x1 : Int) (H : AH) (k : Int → AH → Prop) (x5 : Bool) : Prop :=
 bcase x5 (k (0 : Int) H) (bcase (decide (((qkl .i64 (x0 - x1)) : Int) < (2 : Int))) (k x0 H) (k x1 H))
def qby.b (x0 : Int) (x1 : Int) (H : AH) (k : Int → AH → Prop) : Prop :=
 bcase (decide ((x1 : Int) < (2 : Int))) (qby.j1 x0 x1 H k true) (qby.j1 x0 x1 H k (decide ((x1 : Int) > x0)))
theorem qby.link {x0 : Int} {x1 : Int} {H : AH} {k : Int → AH → Prop} (h : qby.b x0 x1 H k) : qby x0 x1 H k := lk1 pan hT hm Tryz.func179 (by kernel_rfl) (A := ann0) (by kernel_rfl) (by simp) (by kernel_rfl) h
def qaK.j1 (x0 : Sl) (x1 : Int) (x2 : Int) (k : Sl → AH → Prop) (H13 : AH) (x31 : Bool) : Prop :=
 bcase x31 (k ⟨none, 0, 0⟩ H13) ((0 ≤ x1 ∧ x1 < ((x0.n : Nat) : Int)) ∧ onPtr x0.a fun a34 => ldA H13 (qkm a34 (qku x1 * 3)) 3 fun c35 => newC H13 ⟨[(qki .i64 (0 : Int)), (qki .i64 (0 : Int)), (qlh false)], .rw, 0⟩ fun o7 H7 => (qkx c35 = 3 ∧ qk7 c35 qq = true) ∧ stC H7 ⟨o7, 0, none⟩ c35 fun Hs2 => elI .i64 (AH.cell? Hs2 (qkm ⟨o7, 0, none⟩ 1)) fun n37 => qby n37 x2 Hs2 fun n39 H39 => bcase ((n39 : Int) == (0 : Int)) (k ⟨none, 0, 0⟩ H39) (elI .i64 (AH.cell? H39 (qkm ⟨o7, 0, none⟩ 0)) fun n43 => (qkx [(qki .i64 n43), (qki .i64 n39), (qlh true)] = 3) ∧ newC H39 ⟨[(qki .i64 n43), (qki .i64 n39), (qlh true)], .rw, 3⟩ fun o46 H46 => elI .i64 (AH.cell? H46 (qkm ⟨o7, 0, none⟩ 1)) fun n49 => bcase (decide ((n39 : Int) < n49)) (elI .i64 (AH.cell? H46 (qkm ⟨o7, 0, none⟩ 0)) fun n53 => elI .i64 (AH.cell? H46 (qkm ⟨o7, 0, none⟩ 1)) fun n57 => (qkx [(qki .i64 (qkl .i64 (n53 + n39))), (qki .i64 (qkl .i64 (n57 - n39))), (qlh false)] = 3) ∧ newC H46 ⟨[(qki .i64 (qkl .i64 (n53 + n39))), (qki .i64 (qkl .i64 (n57 - n39))), (qlh false)], .rw, 3⟩ fun o61 H61 => appendC 3 H61 ⟨(some ⟨o46, 0, none⟩), 1, 1⟩ ⟨(some ⟨o61, 0, none⟩), 1, 1⟩ fun s62 H62 => k s62 H62) (k ⟨(some ⟨o46, 0, none⟩), 1, 1⟩ H46)))
def qaK.b (x0 : Sl) (x1 : Int) (x2 : Int) (H : AH) (k : Sl → AH → Prop) : Prop :=
 qaq x0 H fun n12 H12 => qR x0 n12 H12 fun b13 H13 => bcase (!b13) (qaK.j1 x0 x1 x2 k H13 true) (bcase (decide ((x1 : Int) < (0 : Int))) (qaK.j1 x0 x1 x2 k H13 true) (bcase (decide ((x1 : Int) ≥ ((x0.n : Nat) : Int))) (qaK.j1 x0 x1 x2 k H13 true) ((0 ≤ x1 ∧ x1 < ((x0.n : Nat) : Int)) ∧ onPtr x0.a fun a28 => elB (AH.cell? H13 (qkm (qkm a28 (qku x1 * 3)) 2)) fun b30 => qaK.j1 x0 x1 x2 k H13 b30)))
theorem qaK.link {x0 : Sl} {x1 : Int} {x2 : Int} {H : AH} {k : Sl → AH → Prop} (h : qaK.b x0 x1 x2 H k) : qaK x0 x1 x2 H k := lk1 pan hT hm Tryz.func164 (by kernel_rfl) (A := ann0) (by kernel_rfl) (by simp) (by kernel_rfl) h
def qT.j1 (t3 : Sl × Int) (it3 : (Sl × Int) → AH → Prop) (o9 : Nat) (t7 : Sl × Int) (it7 : (Sl × Int) → AH → Prop) (HL7 : AH) (x38 : Bool) : Prop :=
 bcase x38 (elI .i64 (AH.cell? HL7 (qkm ⟨o9, 0, none⟩ 0)) fun n43 => (qkx [(qki .i64 (qkl .i64 (n43 + t7.2))), (qki .u64 (0 : Int))] = 2) ∧ newC HL7 ⟨[(qki .i64 (qkl .i64 (n43 + t7.2))), (qki .u64 (0 : Int))], .rw, 2⟩ fun o47 H47 => appendC 2 H47 t7.1 ⟨(some ⟨o47, 0, none⟩), 1, 1⟩ fun s48 H48 => it7 (s48, (qkl .i64 (t7.2 + (1 : Int)))) H48) (it3 (t7.1, (qkl .i64 (t3.2 + (1 : Int)))) HL7)
def qT.l2 (t3 : Sl × Int) (it3 : (Sl × Int) → AH → Prop) (o9 : Nat) (t7 : Sl × Int) (HL7 : AH) (it7 : (Sl × Int) → AH → Prop) : Prop :=
 elI .i64 (AH.cell? HL7 (qkm ⟨o9, 0, none⟩ 1)) fun n33 => bcase (decide ((t7.2 : Int) < n33)) (elB (AH.cell? HL7 (qkm ⟨o9, 0, none⟩ 2)) fun b37 => qT.j1 t3 it3 o9 t7 it7 HL7 b37) (qT.j1 t3 it3 o9 t7 it7 HL7 false)
def qT.l3 (k : Sl → AH → Prop) (s14 : Sl) (t3 : Sl × Int) (HL3 : AH) (it3 : (Sl × Int) → AH → Prop) : Prop :=
 bcase (decide ((t3.2 : Int) < ((s14.n : Nat) : Int))) ((0 ≤ t3.2 ∧ t3.2 < ((s14.n : Nat) : Int)) ∧ onPtr s14.a fun a18 => ldA HL3 (qkm a18 (qku t3.2 * 3)) 3 fun c19 => newC HL3 ⟨[(qki .i64 (0 : Int)), (qki .i64 (0 : Int)), (qlh false)], .rw, 0⟩ fun o9 H9 => (qkx c19 = 3 ∧ qk7 c19 qq = true) ∧ stC H9 ⟨o9, 0, none⟩ c19 fun Hs2 => elI .i64 (AH.cell? Hs2 (qkm ⟨o9, 0, none⟩ 0)) fun n22 => elI .i64 (AH.cell? Hs2 (qkm ⟨o9, 0, none⟩ 1)) fun n24 => elB (AH.cell? Hs2 (qkm ⟨o9, 0, none⟩ 2)) fun b26 => qbj n24 b26 Hs2 fun n27 H27 => AH.cell? H27 (qkm ⟨o9, 0, none⟩ 0) = some (qki .i64 n22) ∧ (qkx [(qki .i64 n22), (qki .u64 n27)] = 2) ∧ newC H27 ⟨[(qki .i64 n22), (qki .u64 n27)], .rw, 2⟩ fun o29 H29 => appendC 2 H29 t3.1 ⟨(some ⟨o29, 0, none⟩), 1, 1⟩ fun s30 H30 => loopT (qT.l2 t3 it3 o9) ((s30, (1 : Int)) : Sl × Int) H30) (k t3.1 HL3)
def qT.b (x0 : Sl) (x1 : Int) (x2 : Int) (H : AH) (k : Sl → AH → Prop) : Prop :=
 qaK x0 x1 x2 H fun s14 H14 => loopT (qT.l3 k s14) ((⟨none, 0, 0⟩, (0 : Int)) : Sl × Int) H14
def qT.ann : Ann := { keep := fun r => match r with | 3 => [(7, .sl), (16, .int .i64)] | 7 => [(7, .sl), (10, .int .i64)] | _ => [], ord := fun r => match r with | 5 => [0, 1, 2, 3, 4, 5, 6, 7, 8, 9, 10, 11] | _ => [] }
theorem qT.link {x0 : Sl} {x1 : Int} {x2 : Int} {H : AH} {k : Sl → AH → Prop} (h : qT.b x0 x1 x2 H k) : qT x0 x1 x2 H k := lk1 pan hT hm Tryz.func135 (by kernel_rfl) (A := qT.ann) (by kernel_rfl) (by simp) (by kernel_rfl) h
def qbo.b (x0 : Sl) (x1 : Int) (x2 : Sl) (H : AH) (k : Sl → Int → Int → AH → Prop) : Prop :=
 qbt x1 H fun n14 H14 => bcase ((n14 : Int) == (0 : Int)) (k ⟨none, 0, 0⟩ (0 : Int) (1 : Int) H14) (qJ x0 H14 fun s19a b19b H19 => bcase (!b19b) (k ⟨none, 0, 0⟩ (0 : Int) (6 : Int) H19) (qap s19a n14 x2 H19 fun n27 H27 => bcase (decide ((n27 : Int) < (0 : Int))) (k ⟨none, 0, 0⟩ (0 : Int) (4 : Int) H27) ((0 ≤ n27 ∧ n27 < ((s19a.n : Nat) : Int)) ∧ onPtr s19a.a fun a36 => ldA H27 (qkm a36 (qku n27 * 3)) 3 fun c37 => qT s19a n27 n14 H27 fun s33 H33 => AH.row? H33 (qkm a36 (qku n27 * 3)) 3 = some c37 ∧ qaW c37 H33 fun n38 H38 => k s33 n38 (0 : Int) H38)))
def qbo.ann : Ann := { keep := fun r => match r with  | _ => [], ord := fun r => match r with | 10 => [0, 1, 2, 4, 5, 6, 7, 3, 8, 9, 10, 11] | _ => [] }
theorem qbo.link {x0 : Sl} {x1 : Int} {x2 : Sl} {H : AH} {k : Sl → Int → Int → AH → Prop} (h : qbo.b x0 x1 x2 H k) : qbo x0 x1 x2 H k := lk3 pan hT hm Tryz.func99 (by kernel_rfl) (A := qbo.ann) (by kernel_rfl) (by simp) (by simp) (by simp) (by kernel_rfl) h
def qU.b (x0 : Sl) (H : AH) (k : Sl → AH → Prop) : Prop :=
 bcase (qk2 x0.a) (k ⟨none, 0, 0⟩ H) (newC H ⟨[], .rw, 1⟩ fun o5 H5 => appendC 1 H5 ⟨(some ⟨o5, 0, none⟩), 0, 1⟩ x0 fun s7 H7 => k s7 H7)
theorem qU.link {x0 : Sl} {H : AH} {k : Sl → AH → Prop} (h : qU.b x0 H k) : qU x0 H k := lk1 pan hT hm Tryz.func165 (by kernel_rfl) (A := ann0) (by kernel_rfl) (by simp) (by kernel_rfl) h
def qaA.j1 (s9 : Sl) (t3 : Int) (it3 : (Int) → AH → Prop) (o7 : Nat) (Hs2 : AH) (x25 : Bool) : Prop :=
 bcase x25 (elI .i64 (AH.cell? Hs2 (qkm ⟨o7, 0, none⟩ 0)) fun n28 => elI .u64 (AH.cell? Hs2 (qkm ⟨o7, 0, none⟩ 1)) fun n30 => (0 ≤ n28 ∧ n28 < ((s9.n : Nat) : Int)) ∧ onPtr s9.a fun a31 => stC Hs2 (qkm a31 (qku n28 * 1)) [(qki .u64 n30)] fun Hs4 => it3 (qkl .i64 (t3 + (1 : Int))) Hs4) (it3 (qkl .i64 (t3 + (1 : Int))) Hs2)
def qaA.l2 (x1 : Sl) (k : Sl → AH → Prop) (s9 : Sl) (t3 : Int) (HL3 : AH) (it3 : (Int) → AH → Prop) : Prop :=
 bcase (decide ((t3 : Int) < ((x1.n : Nat) : Int))) ((0 ≤ t3 ∧ t3 < ((x1.n : Nat) : Int)) ∧ onPtr x1.a fun a14 => ldA HL3 (qkm a14 (qku t3 * 2)) 2 fun c15 => newC HL3 ⟨[(qki .i64 (0 : Int)), (qki .u64 (0 : Int))], .rw, 0⟩ fun o7 H7 => (qkx c15 = 2 ∧ qk7 c15 qq = true) ∧ stC H7 ⟨o7, 0, none⟩ c15 fun Hs2 => elI .i64 (AH.cell? Hs2 (qkm ⟨o7, 0, none⟩ 0)) fun n17 => bcase (decide ((n17 : Int) ≥ (0 : Int))) (elI .i64 (AH.cell? Hs2 (qkm ⟨o7, 0, none⟩ 0)) fun n21 => qaA.j1 s9 t3 it3 o7 Hs2 (decide ((n21 : Int) < ((s9.n : Nat) : Int)))) (qaA.j1 s9 t3 it3 o7 Hs2 false)) (k s9 HL3)
def qaA.b (x0 : Sl) (x1 : Sl) (H : AH) (k : Sl → AH → Prop) : Prop :=
 qU x0 H fun s9 H9 => loopT (qaA.l2 x1 k s9) (((0 : Int)) : Int) H9
def qaA.ann : Ann := { keep := fun r => match r with | 3 => [(12, .int .i64)] | _ => [], ord := fun r => match r with  | _ => [] }
theorem qaA.link {x0 : Sl} {x1 : Sl} {H : AH} {k : Sl → AH → Prop} (h : qaA.b x0 x1 H k) : qaA x0 x1 H k := lk1 pan hT hm Tryz.func137 (by kernel_rfl) (A := qaA.ann) (by kernel_rfl) (by simp) (by kernel_rfl) h
def qas.j1 (k : Sl → AH → Prop) (t3 : Sl × Int) (HL3 : AH) : Prop :=
 qb1 t3.1 HL3 fun H23 => qbG t3.1 H23 fun s25 H25 => k s25 H25
def qas.l2 (x0 : Sl) (k : Sl → AH → Prop) (t3 : Sl × Int) (HL3 : AH) (it3 : (Sl × Int) → AH → Prop) : Prop :=
 bcase (decide ((t3.2 : Int) < ((x0.n : Nat) : Int))) ((0 ≤ t3.2 ∧ t3.2 < ((x0.n : Nat) : Int)) ∧ onPtr x0.a fun a10 => ldA HL3 (qkm a10 (qku t3.2 * 2)) 2 fun c11 => newC HL3 ⟨[(qki .i64 (0 : Int)), (qki .u64 (0 : Int))], .rw, 0⟩ fun o5 H5 => (qkx c11 = 2 ∧ qk7 c11 qq = true) ∧ stC H5 ⟨o5, 0, none⟩ c11 fun Hs2 => elI .i64 (AH.cell? Hs2 (qkm ⟨o5, 0, none⟩ 0)) fun n13 => bcase (decide ((n13 : Int) ≥ (0 : Int))) (elI .i64 (AH.cell? Hs2 (qkm ⟨o5, 0, none⟩ 0)) fun n17 => ((8 : Int) : Int) ≠ 0 ∧ newC Hs2 ⟨[(qki .i64 (qkl .i64 (qlH n17 (8 : Int))))], .rw, 1⟩ fun o19 H19 => appendC 1 H19 t3.1 ⟨(some ⟨o19, 0, none⟩), 1, 1⟩ fun s20 H20 => it3 (s20, (qkl .i64 (t3.2 + (1 : Int)))) H20) (it3 (t3.1, (qkl .i64 (t3.2 + (1 : Int)))) Hs2)) (qas.j1 k t3 HL3)
def qas.b (x0 : Sl) (H : AH) (k : Sl → AH → Prop) : Prop :=
 loopT (qas.l2 x0 k) ((⟨none, 0, 0⟩, (0 : Int)) : Sl × Int) H
def qas.ann : Ann := { keep := fun r => match r with | 3 => [(3, .sl), (8, .int .i64)] | _ => [], ord := fun r => match r with  | _ => [] }
theorem qas.link {x0 : Sl} {H : AH} {k : Sl → AH → Prop} (h : qas.b x0 H k) : qas x0 H k := lk1 pan hT hm Tryz.func138 (by kernel_rfl) (A := qas.ann) (by kernel_rfl) (by simp) (by kernel_rfl) h
def qK.j1 (x0 : Option Addr) (x1 : Sl) (k : Int → AH → Prop) (HL15 : AH) : Prop :=
 onPtr x0 fun a80 => elP (AH.cell? HL15 (qkm a80 0)) fun p82 => qA p82 (1 : Int) (qkl .u64 ((x1.n : Nat) : Int)) HL15 fun n86 H86 => bcase ((n86 : Int) != (0 : Int)) (k n86 H86) (qad x0 x1 H86 fun n92 H92 => k n92 H92)
def qK.l2 (x0 : Option Addr) (x1 : Sl) (k : Int → AH → Prop) (t9 : Sl × Int) (t15 : Int × Int) (HL15 : AH) (it15 : (Int × Int) → AH → Prop) : Prop :=
 bcase (decide ((t15.2 : Int) < ((t9.1.n : Nat) : Int))) ((0 ≤ t15.2 ∧ t15.2 < ((t9.1.n : Nat) : Int)) ∧ onPtr t9.1.a fun a66 => ldA HL15 (qkm a66 (qku t15.2 * 8)) 8 fun c67 => newC HL15 ⟨[(qki .u64 (0 : Int)), (qki .u64 (0 : Int)), (qki .u64 (0 : Int)), (qki .u64 (0 : Int)), (qki .u64 (0 : Int)), (qki .u64 (0 : Int)), (qki .u64 (0 : Int)), (qki .u64 (0 : Int))], .rw, 0⟩ fun o9 H9 => (qkx c67 = 8 ∧ qk7 c67 qq = true) ∧ stC H9 ⟨o9, 0, none⟩ c67 fun Hs6 => onPtr x0 fun a69 => elP (AH.cell? Hs6 (qkm a69 1)) fun p71 => ldA Hs6 ⟨o9, 0, none⟩ 8 fun c73 => qak p71 t15.2 c73 Hs6 fun n74 H74 => bcase ((n74 : Int) != (0 : Int)) (k n74 H74) (it15 (t15.1, (qkl .i64 (t15.2 + (1 : Int)))) H74)) (qK.j1 x0 x1 k HL15)
def qK.l3 (x0 : Option Addr) (x1 : Sl) (k : Int → AH → Prop) (t9 : Sl × Int) (HL9 : AH) (it9 : (Sl × Int) → AH → Prop) : Prop :=
 bcase (decide ((t9.2 : Int) < ((x1.n : Nat) : Int))) ((0 ≤ t9.2 ∧ t9.2 < ((x1.n : Nat) : Int)) ∧ onPtr x1.a fun a43 => ldA HL9 (qkm a43 (qku t9.2 * 9)) 9 fun c44 => newC HL9 ⟨[(qki .i64 (0 : Int)), (qki .u64 (0 : Int)), (qki .u64 (0 : Int)), (qki .u64 (0 : Int)), (qki .u64 (0 : Int)), (qki .u64 (0 : Int)), (qki .u64 (0 : Int)), (qki .u64 (0 : Int)), (qki .u64 (0 : Int))], .rw, 0⟩ fun o7 H7 => (qkx c44 = 9 ∧ qk7 c44 qq = true) ∧ stC H7 ⟨o7, 0, none⟩ c44 fun Hs2 => ((8 : Int) : Int) ≠ 0 ∧ ((8 : Int) : Int) ≠ 0 ∧ elI .i64 (AH.cell? Hs2 (qkm ⟨o7, 0, none⟩ 0)) fun n51 => (0 ≤ (qkl .i64 (qlH t9.2 (8 : Int))) ∧ (qkl .i64 (qlH t9.2 (8 : Int))) < ((t9.1.n : Nat) : Int)) ∧ onPtr t9.1.a fun a53 => (0 ≤ (Int.tmod t9.2 (8 : Int)) ∧ (Int.tmod t9.2 (8 : Int)) < ((8 : Nat) : Int)) ∧ stC Hs2 (qkm (qkm a53 (qku (qkl .i64 (qlH t9.2 (8 : Int))) * 8)) (qku (Int.tmod t9.2 (8 : Int)) * 1)) [(qki .u64 (qkl .u64 n51))] fun Hs4 => ldA Hs4 (qkm ⟨o7, 0, none⟩ 1) 8 fun c57 => (qkx c57 = 8) ∧ newC Hs4 ⟨(setMany [(qki .u64 (0 : Int)), (qki .u64 (0 : Int)), (qki .u64 (0 : Int)), (qki .u64 (0 : Int)), (qki .u64 (0 : Int)), (qki .u64 (0 : Int)), (qki .u64 (0 : Int)), (qki .u64 (0 : Int))] 0 c57), .rw, 8⟩ fun o58 H58 => appendC 8 H58 t9.1 ⟨(some ⟨o58, 0, none⟩), 1, 1⟩ fun s59 H59 => it9 (s59, (qkl .i64 (t9.2 + (1 : Int)))) H59) (loopT (qK.l2 x0 x1 k t9) (((0 : Int), (0 : Int)) : Int × Int) HL9)
def qK.j4 (x0 : Option Addr) (x1 : Sl) (k : Int → AH → Prop) (x12 : Bool) (Hj : AH) : Prop :=
 bcase x12 (k (1 : Int) Hj) (onPtr x0 fun a27 => elP (AH.cell? Hj (qkm a27 0)) fun p29 => qW p29 Hj fun b30 H30 => bcase b30 (k (2 : Int) H30) (qbl x0 H30 fun b33 H33 => bcase b33 (k (5 : Int) H33) (qbQ ((x1.n : Nat) : Int) H33 fun n36 H36 => (0 ≤ n36 ∧ n36 ≤ (16 : Int) ∧ (16 : Int) ≤ (lim : Int)) ∧ newC H36 ⟨zerosOf (qku n36) [(qki .u64 (0 : Int)), (qki .u64 (0 : Int)), (qki .u64 (0 : Int)), (qki .u64 (0 : Int)), (qki .u64 (0 : Int)), (qki .u64 (0 : Int)), (qki .u64 (0 : Int)), (qki .u64 (0 : Int))], .rw, 8⟩ fun o37 H37 => loopT (qK.l3 x0 x1 k) ((⟨(some ⟨o37, 0, none⟩), (qku n36), 1⟩, (0 : Int)) : Sl × Int) H37)))
def qK.b (x0 : Option Addr) (x1 : Sl) (H : AH) (k : Int → AH → Prop) : Prop :=
 bcase (qk2 x0) (qK.j4 x0 x1 k true H) (onPtr x0 fun a17 => elP (AH.cell? H (qkm a17 1)) fun p19 => qar p19 H fun n20 H20 => log_May n20 x1 H20 fun b22 H22 => qK.j4 x0 x1 k (!b22) H22)
def qK.ann : Ann := { keep := fun r => match r with | 9 => [(5, .sl), (40, .int .i64)] | 15 => [(4, .int .i64), (63, .int .i64)] | _ => [], ord := fun r => match r with | 11 => [0, 1, 2, 3, 4, 5, 6, 7, 8, 9, 10] | 17 => [0, 1, 2, 3, 4, 5, 6, 7] | _ => [] }
theorem qK.link {x0 : Option Addr} {x1 : Sl} {H : AH} {k : Int → AH → Prop} (h : qK.b x0 x1 H k) : qK x0 x1 H k := lk1 pan hT hm Tryz.func139 (by kernel_rfl) (A := qK.ann) (by kernel_rfl) (by simp) (by kernel_rfl) h
def qbh.b (x0 : Option Addr) (x1 : Int) (H : AH) (k : Bool → AH → Prop) : Prop :=
 bcase (!(qk2 x0)) (bcase (decide ((x1 : Int) ≥ (0 : Int))) (onPtr x0 fun a14 => elL (AH.cell? H (qkm a14 1)) fun s16 => k (decide ((x1 : Int) < ((s16.n : Nat) : Int))) H) (k false H)) (k false H)
theorem qbh.link {x0 : Option Addr} {x1 : Int} {H : AH} {k : Bool → AH → Prop} (h : qbh.b x0 x1 H k) : qbh x0 x1 H k := lk1 pan hT hm Tryz.func168 (by kernel_rfl) (A := ann0) (by kernel_rfl) (by simp) (by kernel_rfl) h
def qa1.b (x0 : Option Addr) (x1 : Int) (H : AH) (k : Int → AH → Prop) : Prop :=
 qbh x0 x1 H fun b7 H7 => bcase (!b7) (k (0 : Int) H7) (onPtr x0 fun a10 => elL (AH.cell? H7 (qkm a10 1)) fun s12 => (0 ≤ x1 ∧ x1 < ((s12.n : Nat) : Int)) ∧ onPtr s12.a fun a14 => elI .i64 (AH.cell? H7 (qkm a14 (qku x1 * 1))) fun n15 => onPtr x0 fun a17 => elL (AH.cell? H7 (qkm a17 2)) fun s19 => (0 ≤ x1 ∧ x1 < ((s19.n : Nat) : Int)) ∧ onPtr s19.a fun a21 => elI .i64 (AH.cell? H7 (qkm a21 (qku x1 * 1))) fun n22 => k (qkl .i64 (n15 - n22)) H7)
def qa1.ann : Ann := { keep := fun r => match r with  | _ => [], ord := fun r => match r with | 3 => [0, 1, 2, 3, 4, 5, 6, 7, 8, 9, 10, 11, 12, 13, 14, 15] | _ => [] }
theorem qa1.link {x0 : Option Addr} {x1 : Int} {H : AH} {k : Int → AH → Prop} (h : qa1.b x0 x1 H k) : qa1 x0 x1 H k := lk1 pan hT hm Tryz.func169 (by kernel_rfl) (A := qa1.ann) (by kernel_rfl) (by simp) (by kernel_rfl) h
def qaa.j1 (x0 : Option Addr) (x1 : Int) (k : Int → Bool → AH → Prop) (n26 : Int) (n22 : Int) (Hj : AH) : Prop :=
 onPtr x0 fun a43 => elL (AH.cell? Hj (qkm a43 1)) fun s45 => (0 ≤ x1 ∧ x1 < ((s45.n : Nat) : Int)) ∧ onPtr s45.a fun a47 => elI .i64 (AH.cell? Hj (qkm a47 (qku x1 * 1))) fun n48 => k n48 (decide ((n22 : Int) ≥ n26)) Hj
def qaa.b (x0 : Option Addr) (x1 : Int) (H : AH) (k : Int → Bool → AH → Prop) : Prop :=
 qbh x0 x1 H fun b9 H9 => bcase (!b9) (k (0 : Int) false H9) (onPtr x0 fun a12 => elL (AH.cell? H9 (qkm a12 1)) fun s14 => (0 ≤ x1 ∧ x1 < ((s14.n : Nat) : Int)) ∧ onPtr s14.a fun a16 => elI .i64 (AH.cell? H9 (qkm a16 (qku x1 * 1))) fun n17 => (0 ≤ x1 ∧ x1 < ((s14.n : Nat) : Int)) ∧ onPtr s14.a fun a19 => stC H9 (qkm a19 (qku x1 * 1)) [(qki .i64 (qkl .i64 (n17 + (1 : Int))))] fun Hs2 => onPtr x0 fun a24 => elI .i64 (AH.cell? Hs2 (qkm a24 0)) fun n26 => qa1 x0 x1 Hs2 fun n22 H22 => AH.cell? H22 (qkm a24 0) = some (qki .i64 n26) ∧ bcase (decide ((n22 : Int) ≥ n26)) (onPtr x0 fun a30 => elL (AH.cell? H22 (qkm a30 2)) fun s32 => onPtr x0 fun a35 => elL (AH.cell? H22 (qkm a35 1)) fun s37 => (0 ≤ x1 ∧ x1 < ((s37.n : Nat) : Int)) ∧ onPtr s37.a fun a39 => elI .i64 (AH.cell? H22 (qkm a39 (qku x1 * 1))) fun n40 => (0 ≤ x1 ∧ x1 < ((s32.n : Nat) : Int)) ∧ onPtr s32.a fun a41 => stC H22 (qkm a41 (qku x1 * 1)) [(qki .i64 n40)] fun Hs4 => qaa.j1 x0 x1 k n26 n22 Hs4) (qaa.j1 x0 x1 k n26 n22 H22))
def qaa.ann : Ann := { keep := fun r => match r with  | _ => [], ord := fun r => match r with | 4 => [0, 1, 3, 4, 5, 6, 2, 7, 8] | 6 => [0, 1, 2, 3, 4, 5, 6, 7, 8, 9, 10, 11, 12, 13] | _ => [] }
theorem qaa.link {x0 : Option Addr} {x1 : Int} {H : AH} {k : Int → Bool → AH → Prop} (h : qaa.b x0 x1 H k) : qaa x0 x1 H k := lk2 pan hT hm Tryz.func140 (by kernel_rfl) (A := qaa.ann) (by kernel_rfl) (by simp) (by simp) (by kernel_rfl) h
def qz.l1 (x0 : Option Addr) (k : AH → Prop) (pk : Value → AH → Prop) (s59 : Sl) (t11 : Int) (HL11 : AH) (it11 : (Int) → AH → Prop) : Prop :=
 bcase (decide ((t11 : Int) < ((s59.n : Nat) : Int))) ((0 ≤ t11 ∧ t11 < ((s59.n : Nat) : Int)) ∧ onPtr s59.a fun a63 => elI .i64 (AH.cell? HL11 (qkm a63 (qku t11 * 1))) fun n64 => qbO n64 HL11 fun n66 H66 => onPtr x0 fun a69 => elP (AH.cell? H66 (qkm a69 7)) fun p71 => qaa p71 n66 H66 fun n73a b73b H73 => bcase b73b (onPtr x0 fun a78 => elP (AH.cell? H73 (qkm a78 0)) fun p80 => qA p80 (qkl .i64 ((19 : Int) + n66)) (qkl .u64 n73a) H73 fun n85 H85 => qY n85 H85 (fun pv86 Hp86 => pk pv86 Hp86) fun H86 => it11 (qkl .i64 (t11 + (1 : Int))) H86) (it11 (qkl .i64 (t11 + (1 : Int))) H73)) (k HL11)
def qz.j2 (x0 : Option Addr) (x2 : Sl) (k : AH → Prop) (pk : Value → AH → Prop) (n44 : Int) (Hj : AH) : Prop :=
 qY n44 Hj (fun pv57 Hp57 => pk pv57 Hp57) fun H57 => qas x2 H57 fun s59 H59 => loopT (qz.l1 x0 k pk s59) (((0 : Int)) : Int) H59
def qz.j3 (x0 : Option Addr) (x2 : Sl) (k : AH → Prop) (pk : Value → AH → Prop) (t3 : Sl × Int) (HL3 : AH) : Prop :=
 onPtr x0 fun a40 => elP (AH.cell? HL3 (qkm a40 6)) fun p42 => qK p42 t3.1 HL3 fun n44 H44 => onPtr x0 fun a47 => elB (AH.cell? H44 (qkm a47 8)) fun b49 => bcase b49 (onPtr x0 fun a54 => stC H44 (qkm a54 8) [(qlh true)] fun Hs2 => qz.j2 x0 x2 k pk n44 Hs2) (onPtr x0 fun a54 => stC H44 (qkm a54 8) [(qlh ((n44 : Int) == (3 : Int)))] fun Hs4 => qz.j2 x0 x2 k pk n44 Hs4)
def qz.l4 (x0 : Option Addr) (x2 : Sl) (k : AH → Prop) (pk : Value → AH → Prop) (s17 : Sl) (s19 : Sl) (t3 : Sl × Int) (HL3 : AH) (it3 : (Sl × Int) → AH → Prop) : Prop :=
 bcase (decide ((t3.2 : Int) < ((s19.n : Nat) : Int))) ((0 ≤ t3.2 ∧ t3.2 < ((s19.n : Nat) : Int)) ∧ onPtr s19.a fun a23 => elI .i64 (AH.cell? HL3 (qkm a23 (qku t3.2 * 1))) fun n24 => onPtr x0 fun a27 => ldA HL3 (qkm a27 1) 4 fun c29 => qa3 c29 n24 HL3 fun n31 H31 => qaX s17 n24 H31 fun c34 H34 => (qkx c34 = 8) ∧ (qkx (setMany [(qki .i64 n31), (qki .u64 (0 : Int)), (qki .u64 (0 : Int)), (qki .u64 (0 : Int)), (qki .u64 (0 : Int)), (qki .u64 (0 : Int)), (qki .u64 (0 : Int)), (qki .u64 (0 : Int)), (qki .u64 (0 : Int))] 1 c34) = 9) ∧ newC H34 ⟨(setMany [(qki .i64 (0 : Int)), (qki .u64 (0 : Int)), (qki .u64 (0 : Int)), (qki .u64 (0 : Int)), (qki .u64 (0 : Int)), (qki .u64 (0 : Int)), (qki .u64 (0 : Int)), (qki .u64 (0 : Int)), (qki .u64 (0 : Int))] 0 (setMany [(qki .i64 n31), (qki .u64 (0 : Int)), (qki .u64 (0 : Int)), (qki .u64 (0 : Int)), (qki .u64 (0 : Int)), (qki .u64 (0 : Int)), (qki .u64 (0 : Int)), (qki .u64 (0 : Int)), (qki .u64 (0 : Int))] 1 c34)), .rw, 9⟩ fun o36 H36 => appendC 9 H36 t3.1 ⟨(some ⟨o36, 0, none⟩), 1, 1⟩ fun s37 H37 => it3 (s37, (qkl .i64 (t3.2 + (1 : Int)))) H37) (qz.j3 x0 x2 k pk t3 HL3)
def qz.b (x0 : Option Addr) (x1 : Sl) (x2 : Sl) (H : AH) (pk : Value → AH → Prop) (k : AH → Prop) : Prop :=
 qaA x1 x2 H fun s17 H17 => qas x2 H17 fun s19 H19 => loopT (qz.l4 x0 x2 k pk s17 s19) ((⟨none, 0, 0⟩, (0 : Int)) : Sl × Int) H19
def qz.ann : Ann := { keep := fun r => match r with | 3 => [(6, .sl), (21, .int .i64)] | 11 => [(61, .int .i64)] | _ => [], ord := fun r => match r with  | _ => [] }
theorem qz.link {x0 : Option Addr} {x1 : Sl} {x2 : Sl} {H : AH} {pk : Value → AH → Prop} {k : AH → Prop} (h : qz.b x0 x1 x2 H pk k) : qz x0 x1 x2 H pk k := lk0 pan hT hm Tryz.func101 (by kernel_rfl) (A := qz.ann) (by kernel_rfl) (by kernel_rfl) h
def qbv.b (x0 : Option Addr) (x1 : Int) (H : AH) (pk : Value → AH → Prop) (k : Int → AH → Prop) : Prop :=
 qaG x0 H (fun pv10 Hp10 => pk pv10 Hp10) fun s10 H10 => qbt x1 H10 fun n12 H12 => bcase ((n12 : Int) == (0 : Int)) (pk (Value.iface 37 (qki .i64 (1 : Int))) H12) (qaf x0 H12 (fun pv16 Hp16 => pk pv16 Hp16) fun H16 => onPtr x0 fun a21 => elP (AH.cell? H16 (qkm a21 7)) fun p23 => qbk p23 H16 fun s24 H24 => qbo s10 x1 s24 H24 fun s25a n25b n25c H25 => qY n25c H25 (fun pv30 Hp30 => pk pv30 Hp30) fun H30 => qz x0 s10 s25a H30 (fun pv34 Hp34 => pk pv34 Hp34) fun H34 => k n25b H34)
theorem qbv.link {x0 : Option Addr} {x1 : Int} {H : AH} {pk : Value → AH → Prop} {k : Int → AH → Prop} (h : qbv.b x0 x1 H pk k) : qbv x0 x1 H pk k := lk1 pan hT hm Tryz.func49 (by kernel_rfl) (A := ann0) (by kernel_rfl) (by simp) (by kernel_rfl) h
def qac.j1 (k : Int → AH → Prop) (t3 : Int × Int × Int) (it3 : (Int × Int × Int) → AH → Prop) (o5 : Nat) (H14 : AH) (x19 : Bool) : Prop :=
 bcase x19 (k (0 : Int) H14) (elI .i64 (AH.cell? H14 (qkm ⟨o5, 0, none⟩ 1)) fun n22 => it3 (t3.1, (qkl .i64 (t3.2.1 + n22)), (qkl .i64 (t3.2.2 + (1 : Int)))) H14)
def qac.l2 (x0 : Sl) (k : Int → AH → Prop) (t3 : Int × Int × Int) (HL3 : AH) (it3 : (Int × Int × Int) → AH → Prop) : Prop :=
 bcase (decide ((t3.2.2 : Int) < ((x0.n : Nat) : Int))) ((0 ≤ t3.2.2 ∧ t3.2.2 < ((x0.n : Nat) : Int)) ∧ onPtr x0.a fun a10 => ldA HL3 (qkm a10 (qku t3.2.2 * 3)) 3 fun c11 => newC HL3 ⟨[(qki .i64 (0 : Int)), (qki .i64 (0 : Int)), (qlh false)], .rw, 0⟩ fun o5 H5 => (qkx c11 = 3 ∧ qk7 c11 qq = true) ∧ stC H5 ⟨o5, 0, none⟩ c11 fun Hs2 => elI .i64 (AH.cell? Hs2 (qkm ⟨o5, 0, none⟩ 1)) fun n13 => qaV n13 Hs2 fun b14 H14 => bcase (!b14) (qac.j1 k t3 it3 o5 H14 true) (qac.j1 k t3 it3 o5 H14 (decide ((t3.2.1 : Int) > (512 : Int))))) (k t3.2.1 HL3)
def qac.b (x0 : Sl) (H : AH) (k : Int → AH → Prop) : Prop :=
 loopT (qac.l2 x0 k) (((0 : Int), (0 : Int), (0 : Int)) : Int × Int × Int) H
def qac.ann : Ann := { keep := fun r => match r with | 3 => [(2, .int .i64), (3, .int .i64), (8, .int .i64)] | _ => [], ord := fun r => match r with  | _ => [] }
theorem qac.link {x0 : Sl} {H : AH} {k : Int → AH → Prop} (h : qac.b x0 H k) : qac x0 H k := lk1 pan hT hm Tryz.func171 (by kernel_rfl) (A := qac.ann) (by kernel_rfl) (by simp) (by kernel_rfl) h
def qx.j1 (x1 : Int) (k : Int → Int → Bool → AH → Prop) (H10 : AH) (x4 : Int) (x57 : Bool) : Prop :=
 bcase x57 (k x4 (qkl .i64 ((qkl .i64 (x1 + (1 : Int))) + (1 : Int))) true H10) (k x4 (qkl .i64 (x1 + (1 : Int))) true H10)
def qx.j2 (x0 : Sl) (x1 : Int) (k : Int → Int → Bool → AH → Prop) (H10 : AH) (x4 : Int) : Prop :=
 bcase (decide (((qkl .i64 (x1 + (1 : Int))) : Int) < ((x0.n : Nat) : Int))) ((0 ≤ (qkl .i64 (x1 + (1 : Int))) ∧ (qkl .i64 (x1 + (1 : Int))) < ((x0.n : Nat) : Int)) ∧ onPtr x0.a fun a53 => elB (AH.cell? H10 (qkm (qkm a53 (qku (qkl .i64 (x1 + (1 : Int))) * 3)) 2)) fun b55 => qx.j1 x1 k H10 x4 (!b55)) (qx.j1 x1 k H10 x4 false)
def qx.j3 (x0 : Sl) (x1 : Int) (k : Int → Int → Bool → AH → Prop) (H10 : AH) (x43 : Bool) : Prop :=
 bcase x43 (qx.j2 x0 x1 k H10 (qkl .i64 (x1 - (1 : Int)))) (qx.j2 x0 x1 k H10 x1)
def qx.j4 (x0 : Sl) (x1 : Int) (k : Int → Int → Bool → AH → Prop) (H10 : AH) (x29 : Bool) : Prop :=
 bcase x29 (k (0 : Int) (0 : Int) false H10) (bcase (decide ((x1 : Int) > (0 : Int))) ((0 ≤ (qkl .i64 (x1 - (1 : Int))) ∧ (qkl .i64 (x1 - (1 : Int))) < ((x0.n : Nat) : Int)) ∧ onPtr x0.a fun a39 => elB (AH.cell? H10 (qkm (qkm a39 (qku (qkl .i64 (x1 - (1 : Int))) * 3)) 2)) fun b41 => qx.j3 x0 x1 k H10 (!b41)) (qx.j3 x0 x1 k H10 false))
def qx.b (x0 : Sl) (x1 : Int) (H : AH) (k : Int → Int → Bool → AH → Prop) : Prop :=
 qac x0 H fun n9 H9 => qR x0 n9 H9 fun b10 H10 => bcase (!b10) (qx.j4 x0 x1 k H10 true) (bcase (decide ((x1 : Int) < (0 : Int))) (qx.j4 x0 x1 k H10 true) (bcase (decide ((x1 : Int) ≥ ((x0.n : Nat) : Int))) (qx.j4 x0 x1 k H10 true) ((0 ≤ x1 ∧ x1 < ((x0.n : Nat) : Int)) ∧ onPtr x0.a fun a25 => elB (AH.cell? H10 (qkm (qkm a25 (qku x1 * 3)) 2)) fun b27 => qx.j4 x0 x1 k H10 (!b27))))
theorem qx.link {x0 : Sl} {x1 : Int} {H : AH} {k : Int → Int → Bool → AH → Prop} (h : qx.b x0 x1 H k) : qx x0 x1 H k := lk3 pan hT hm Tryz.func170 (by kernel_rfl) (A := ann0) (by kernel_rfl) (by simp) (by simp) (by simp) (by kernel_rfl) h
def qaP.b (x0 : Sl) (x1 : Int) (H : AH) (k : List Value → Bool → AH → Prop) : Prop :=
 newC H ⟨[(qki .i64 (0 : Int)), (qki .u64 (0 : Int))], .rw, 0⟩ fun o4 H4 => qx x0 x1 H4 fun n12a n12b b12c H12 => bcase (!b12c) ((qkx [(qki .i64 (0 : Int)), (qki .u64 (0 : Int))] = 2 ∧ qk7 [(qki .i64 (0 : Int)), (qki .u64 (0 : Int))] qq = true) ∧ stC H12 ⟨o4, 0, none⟩ [(qki .i64 (0 : Int)), (qki .u64 (0 : Int))] fun Hs2 => ldA Hs2 ⟨o4, 0, none⟩ 2 fun r0 => k r0 false Hs2) ((0 ≤ n12a ∧ n12a < ((x0.n : Nat) : Int)) ∧ onPtr x0.a fun a21 => elI .i64 (AH.cell? H12 (qkm (qkm a21 (qku n12a * 3)) 0)) fun n23 => (0 ≤ n12a ∧ n12a ≤ n12b ∧ n12b ≤ ((x0.n : Nat) : Int)) ∧ qac ⟨(Option.map (fun x => qkm x (qku n12a * 3)) x0.a), (qku n12b - qku n12a), 0⟩ H12 fun n28 H28 => AH.cell? H28 (qkm (qkm a21 (qku n12a * 3)) 0) = some (qki .i64 n23) ∧ qbj n28 false H28 fun n29 H29 => AH.cell? H29 (qkm (qkm a21 (qku n12a * 3)) 0) = some (qki .i64 n23) ∧ (qkx [(qki .i64 n23), (qki .u64 n29)] = 2 ∧ qk7 [(qki .i64 n23), (qki .u64 n29)] qq = true) ∧ stC H29 ⟨o4, 0, none⟩ [(qki .i64 n23), (qki .u64 n29)] fun Hs4 => ldA Hs4 ⟨o4, 0, none⟩ 2 fun r0 => k r0 true Hs4)
def qaP.ann : Ann := { keep := fun r => match r with  | _ => [], ord := fun r => match r with | 4 => [0, 1, 2, 3, 4, 5, 6, 7, 8, 9, 10, 11, 12, 13] | _ => [] }
theorem qaP.link {x0 : Sl} {x1 : Int} {H : AH} {k : List Value → Bool → AH → Prop} (h : qaP.b x0 x1 H k) : qaP x0 x1 H k := lk2 pan hT hm Tryz.func141 (by kernel_rfl) (A := qaP.ann) (by kernel_rfl) (by simp) (by simp) (by kernel_rfl) h
def qbX.b (x0 : Sl) (x1 : Int) (H : AH) (k : Sl → Int → AH → Prop) : Prop :=
 qbE x0 x1 H fun s13a n13b H13 => bcase ((((s13a.n : Nat) : Int) : Int) == (0 : Int)) (k ⟨none, 0, 0⟩ (6 : Int) H13) (qaP s13a n13b H13 fun c22a b22b H22 => newC H22 ⟨[(qki .i64 (0 : Int)), (qki .u64 (0 : Int))], .rw, 0⟩ fun o8 H8 => (qkx c22a = 2 ∧ qk7 c22a qq = true) ∧ stC H8 ⟨o8, 0, none⟩ c22a fun Hs2 => bcase (!b22b) (k ⟨none, 0, 0⟩ (1 : Int) Hs2) (ldA Hs2 ⟨o8, 0, none⟩ 2 fun c27 => (qkx c27 = 2) ∧ newC Hs2 ⟨(setMany [(qki .i64 (0 : Int)), (qki .u64 (0 : Int))] 0 c27), .rw, 2⟩ fun o28 H28 => k ⟨(some ⟨o28, 0, none⟩), 1, 1⟩ (0 : Int) H28))
theorem qbX.link {x0 : Sl} {x1 : Int} {H : AH} {k : Sl → Int → AH → Prop} (h : qbX.b x0 x1 H k) : qbX x0 x1 H k := lk2 pan hT hm Tryz.func102 (by kernel_rfl) (A := ann0) (by kernel_rfl) (by simp) (by simp) (by kernel_rfl) h
def qba.b (x0 : Option Addr) (H : AH) (pk : Value → AH → Prop) (k : Int → AH → Prop) : Prop :=
 onPtr x0 fun a7 => elP (AH.cell? H (qkm a7 0)) fun p9 => qB p9 (2 : Int) H fun n10a n10b H10 => qY n10b H10 (fun pv14 Hp14 => pk pv14 Hp14) fun H14 => k (qkl .i64 n10a) H14
theorem qba.link {x0 : Option Addr} {H : AH} {pk : Value → AH → Prop} {k : Int → AH → Prop} (h : qba.b x0 H pk k) : qba x0 H pk k := lk1 pan hT hm Tryz.func54 (by kernel_rfl) (A := ann0) (by kernel_rfl) (by simp) (by kernel_rfl) h
def qbF.b (x0 : Option Addr) (x1 : Int) (H : AH) (pk : Value → AH → Prop) (k : AH → Prop) : Prop :=
 qaG x0 H (fun pv8 Hp8 => pk pv8 Hp8) fun s8 H8 => qbX s8 x1 H8 fun s12a n12b H12 => qY n12b H12 (fun pv16 Hp16 => pk pv16 Hp16) fun H16 => qba x0 H16 (fun pv18 Hp18 => pk pv18 Hp18) fun n18 H18 => bcase ((n18 : Int) == x1) (pk (Value.iface 37 (qki .i64 (5 : Int))) H18) (qaf x0 H18 (fun pv23 Hp23 => pk pv23 Hp23) fun H23 => qz x0 s8 s12a H23 (fun pv27 Hp27 => pk pv27 Hp27) fun H27 => k H27)
theorem qbF.link {x0 : Option Addr} {x1 : Int} {H : AH} {pk : Value → AH → Prop} {k : AH → Prop} (h : qbF.b x0 x1 H pk k) : qbF x0 x1 H pk k := lk0 pan hT hm Tryz.func50 (by kernel_rfl) (A := ann0) (by kernel_rfl) (by kernel_rfl) h
def qaY.b (x0 : List Value) (x1 : Option Addr) (x2 : Option Addr) (H : AH) (k : Bool → AH → Prop) : Prop :=
 newC H ⟨x0, .rw, 0⟩ fun o3 H3 => elB (AH.cell? H3 (qkm ⟨o3, 0, none⟩ 2)) fun b6 => bcase b6 (onPtr x1 fun a8 => elI .i64 (AH.cell? H3 a8) fun n8 => ldA H3 ⟨o3, 0, none⟩ 3 fun c9 => qaW c9 H3 fun n10 H10 => AH.cell? H10 a8 = some (qki .i64 n8) ∧ bcase (decide ((n8 : Int) ≥ n10)) (onPtr x1 fun a14 => elI .i64 (AH.cell? H10 a14) fun n14 => elI .i64 (AH.cell? H10 (qkm ⟨o3, 0, none⟩ 0)) fun n16 => elI .i64 (AH.cell? H10 (qkm ⟨o3, 0, none⟩ 1)) fun n18 => onPtr x2 fun a21 => elI .i64 (AH.cell? H10 a21) fun n21 => k (decide ((n14 : Int) ≤ (qkl .i64 ((qkl .i64 ((qkl .i64 (n16 + n18)) * (8 : Int))) - n21)))) H10) (k false H10)) (k false H3)
def qaY.ann : Ann := { keep := fun r => match r with  | _ => [], ord := fun r => match r with | 1 => [0, 1, 2, 3, 4, 5, 6, 7, 8, 9, 10, 11, 12, 13, 14, 15, 16, 17, 18, 19, 20] | _ => [] }
theorem qaY.link {x0 : List Value} {x1 : Option Addr} {x2 : Option Addr} {H : AH} {k : Bool → AH → Prop} (h : qaY.b x0 x1 x2 H k) : qaY x0 x1 x2 H k := lk1 pan hT hm Tryz.func183 (by kernel_rfl) (A := qaY.ann) (by kernel_rfl) (by simp) (by kernel_rfl) h
def qa0.j1 (x0 : Sl) (k : Bool → AH → Prop) (o4 : Nat) (o5 : Nat) (H5 : AH) (x14 : Bool) : Prop :=
 bcase x14 (k false H5) (qJ x0 H5 fun s17a b17b H17 => qD s17a (some ⟨o4, 0, none⟩) (some ⟨o5, 0, none⟩) H17 fun b22 H22 => k b22 H22)
def qa0.b (x0 : Sl) (x1 : Int) (x2 : Int) (H : AH) (k : Bool → AH → Prop) : Prop :=
 newC H ⟨[(qki .i64 x1)], .rw, 0⟩ fun o4 H4 => newC H4 ⟨[(qki .i64 x2)], .rw, 0⟩ fun o5 H5 => elI .i64 (AH.cell? H5 ⟨o5, 0, none⟩) fun n9 => bcase (decide ((n9 : Int) < (0 : Int))) (qa0.j1 x0 k o4 o5 H5 true) (elI .i64 (AH.cell? H5 ⟨o5, 0, none⟩) fun n12 => qa0.j1 x0 k o4 o5 H5 (decide ((n12 : Int) > (448 : Int))))
theorem qa0.link {x0 : Sl} {x1 : Int} {x2 : Int} {H : AH} {k : Bool → AH → Prop} (h : qa0.b x0 x1 x2 H k) : qa0 x0 x1 x2 H k := lk1 pan hT hm Tryz.func172 (by kernel_rfl) (A := ann0) (by kernel_rfl) (by simp) (by kernel_rfl) h
def qbq.b (x0 : Sl) (x1 : Int) (x2 : Int) (H : AH) (k : Int → AH → Prop) : Prop :=
 qJ x0 H fun s11a b11b H11 => bcase (!b11b) (k (6 : Int) H11) (qa0 x0 x1 x2 H11 fun b19 H19 => bcase (!b19) (k (1 : Int) H19) (k (0 : Int) H19))
theorem qbq.link {x0 : Sl} {x1 : Int} {x2 : Int} {H : AH} {k : Int → AH → Prop} (h : qbq.b x0 x1 x2 H k) : qbq x0 x1 x2 H k := lk1 pan hT hm Tryz.func142 (by kernel_rfl) (A := ann0) (by kernel_rfl) (by simp) (by kernel_rfl) h
def qbp.b (x0 : Sl) (x1 : Int) (x2 : Int) (H : AH) (k : Bool → AH → Prop) : Prop :=
 bcase (decide ((x1 : Int) ≥ (0 : Int))) (bcase (decide ((x2 : Int) ≥ (0 : Int))) (bcase (decide ((x2 : Int) ≤ (448 : Int))) (k (decide ((x1 : Int) ≤ (qkl .i64 ((qkl .i64 (((x0.n : Nat) : Int) * (8 : Int))) - x2)))) H) (k false H)) (k false H)) (k false H)
theorem qbp.link {x0 : Sl} {x1 : Int} {x2 : Int} {H : AH} {k : Bool → AH → Prop} (h : qbp.b x0 x1 x2 H k) : qbp x0 x1 x2 H k := lk1 pan hT hm Tryz.func173 (by kernel_rfl) (A := ann0) (by kernel_rfl) (by simp) (by kernel_rfl) h
def qbm.l1 (x0 : Sl) (x1 : Int) (x2 : Int) (k : Sl → Bool → AH → Prop) (t5 : Sl × Int) (HL5 : AH) (it5 : (Sl × Int) → AH → Prop) : Prop :=
 bcase (decide ((t5.2 : Int) < (qkl .i64 (x1 + x2)))) (((8 : Int) : Int) ≠ 0 ∧ (0 ≤ (qkl .i64 (qlH t5.2 (8 : Int))) ∧ (qkl .i64 (qlH t5.2 (8 : Int))) < ((x0.n : Nat) : Int)) ∧ onPtr x0.a fun a27 => elI .u64 (AH.cell? HL5 (qkm a27 (qku (qkl .i64 (qlH t5.2 (8 : Int))) * 1))) fun n28 => ((8 : Int) : Int) ≠ 0 ∧ (0 : Int) ≤ (qkl .i64 ((Int.tmod t5.2 (8 : Int)) * (8 : Int))) ∧ newC HL5 ⟨[(qki .u8 (qkl .u8 (shrI .u64 n28 (qkl .i64 ((Int.tmod t5.2 (8 : Int)) * (8 : Int))))))], .rw, 1⟩ fun o34 H34 => appendC 1 H34 t5.1 ⟨(some ⟨o34, 0, none⟩), 1, 1⟩ fun s35 H35 => it5 (s35, (qkl .i64 (t5.2 + (1 : Int)))) H35) (k t5.1 true HL5)
def qbm.b (x0 : Sl) (x1 : Int) (x2 : Int) (H : AH) (k : Sl → Bool → AH → Prop) : Prop :=
 qbp x0 x1 x2 H fun b13 H13 => bcase (!b13) (k ⟨none, 0, 0⟩ false H13) (loopT (qbm.l1 x0 x1 x2 k) ((⟨none, 0, 0⟩, x1) : Sl × Int) H13)
def qbm.ann : Ann := { keep := fun r => match r with | 5 => [(8, .sl), (9, .int .i64)] | _ => [], ord := fun r => match r with  | _ => [] }
theorem qbm.link {x0 : Sl} {x1 : Int} {x2 : Int} {H : AH} {k : Sl → Bool → AH → Prop} (h : qbm.b x0 x1 x2 H k) : qbm x0 x1 x2 H k := lk2 pan hT hm Tryz.func143 (by kernel_rfl) (A := qbm.ann) (by kernel_rfl) (by simp) (by simp) (by kernel_rfl) h
def qbZ.b (x0 : Sl) (x1 : Int) (x2 : Int) (H : AH) (k : Sl → Int → AH → Prop) : Prop :=
 qbq x0 x1 x2 H fun n14 H14 => bcase ((n14 : Int) != (0 : Int)) (k ⟨none, 0, 0⟩ n14 H14) (qbm x0 x1 x2 H14 fun s22a b22b H22 => k s22a (0 : Int) H22)
theorem qbZ.link {x0 : Sl} {x1 : Int} {x2 : Int} {H : AH} {k : Sl → Int → AH → Prop} (h : qbZ.b x0 x1 x2 H k) : qbZ x0 x1 x2 H k := lk2 pan hT hm Tryz.func103 (by kernel_rfl) (A := ann0) (by kernel_rfl) (by simp) (by simp) (by kernel_rfl) h
def qbI.b (x0 : Option Addr) (x1 : Int) (x2 : Int) (H : AH) (pk : Value → AH → Prop) (k : Sl → AH → Prop) : Prop :=
 qaG x0 H (fun pv11 Hp11 => pk pv11 Hp11) fun s11 H11 => qbZ s11 x1 x2 H11 fun s14a n14b H14 => qY n14b H14 (fun pv18 Hp18 => pk pv18 Hp18) fun H18 => k s14a H18
theorem qbI.link {x0 : Option Addr} {x1 : Int} {x2 : Int} {H : AH} {pk : Value → AH → Prop} {k : Sl → AH → Prop} (h : qbI.b x0 x1 x2 H pk k) : qbI x0 x1 x2 H pk k := lk1 pan hT hm Tryz.func51 (by kernel_rfl) (A := ann0) (by kernel_rfl) (by simp) (by kernel_rfl) h
def qV.j1 (x1 : Int) (t5 : Sl × Int) (it5 : (Sl × Int) → AH → Prop) (n25 : Int) (x8 : Sl) (Hj : AH) : Prop :=
 (0 ≤ (qkl .i64 (((x8.n : Nat) : Int) - (1 : Int))) ∧ (qkl .i64 (((x8.n : Nat) : Int) - (1 : Int))) < ((x8.n : Nat) : Int)) ∧ onPtr x8.a fun a59 => elI .u64 (AH.cell? Hj (qkm (qkm a59 (qku (qkl .i64 (((x8.n : Nat) : Int) - (1 : Int))) * 2)) 1)) fun n64 => ((8 : Int) : Int) ≠ 0 ∧ (0 : Int) ≤ (qkl .i64 ((Int.tmod (qkl .i64 (x1 + t5.2)) (8 : Int)) * (8 : Int))) ∧ ((8 : Int) : Int) ≠ 0 ∧ (0 : Int) ≤ (qkl .i64 ((Int.tmod (qkl .i64 (x1 + t5.2)) (8 : Int)) * (8 : Int))) ∧ stC Hj (qkm (qkm a59 (qku (qkl .i64 (((x8.n : Nat) : Int) - (1 : Int))) * 2)) 1) [(qki .u64 (orI .u64 (andNotI .u64 n64 (shlI .u64 (255 : Int) (qkl .i64 ((Int.tmod (qkl .i64 (x1 + t5.2)) (8 : Int)) * (8 : Int))))) (shlI .u64 (qkl .u64 n25) (qkl .i64 ((Int.tmod (qkl .i64 (x1 + t5.2)) (8 : Int)) * (8 : Int))))))] fun Hs2 => it5 (x8, (qkl .i64 (t5.2 + (1 : Int)))) Hs2
def qV.j2 (x0 : Sl) (x1 : Int) (t5 : Sl × Int) (it5 : (Sl × Int) → AH → Prop) (HL5 : AH) (n25 : Int) (x43 : Bool) : Prop :=
 bcase x43 (((8 : Int) : Int) ≠ 0 ∧ ((8 : Int) : Int) ≠ 0 ∧ (0 ≤ (qkl .i64 (qlH (qkl .i64 (x1 + t5.2)) (8 : Int))) ∧ (qkl .i64 (qlH (qkl .i64 (x1 + t5.2)) (8 : Int))) < ((x0.n : Nat) : Int)) ∧ onPtr x0.a fun a50 => elI .u64 (AH.cell? HL5 (qkm a50 (qku (qkl .i64 (qlH (qkl .i64 (x1 + t5.2)) (8 : Int))) * 1))) fun n51 => (qkx [(qki .i64 (qkl .i64 (qlH (qkl .i64 (x1 + t5.2)) (8 : Int)))), (qki .u64 n51)] = 2) ∧ newC HL5 ⟨[(qki .i64 (qkl .i64 (qlH (qkl .i64 (x1 + t5.2)) (8 : Int)))), (qki .u64 n51)], .rw, 2⟩ fun o53 H53 => appendC 2 H53 t5.1 ⟨(some ⟨o53, 0, none⟩), 1, 1⟩ fun s54 H54 => qV.j1 x1 t5 it5 n25 s54 H54) (qV.j1 x1 t5 it5 n25 t5.1 HL5)
def qV.l3 (x0 : Sl) (x1 : Int) (x2 : Sl) (k : Sl → Bool → AH → Prop) (t5 : Sl × Int) (HL5 : AH) (it5 : (Sl × Int) → AH → Prop) : Prop :=
 bcase (decide ((t5.2 : Int) < ((x2.n : Nat) : Int))) ((0 ≤ t5.2 ∧ t5.2 < ((x2.n : Nat) : Int)) ∧ onPtr x2.a fun a24 => elI .u8 (AH.cell? HL5 (qkm a24 (qku t5.2 * 1))) fun n25 => bcase ((((t5.1.n : Nat) : Int) : Int) == (0 : Int)) (qV.j2 x0 x1 t5 it5 HL5 n25 true) ((0 ≤ (qkl .i64 (((t5.1.n : Nat) : Int) - (1 : Int))) ∧ (qkl .i64 (((t5.1.n : Nat) : Int) - (1 : Int))) < ((t5.1.n : Nat) : Int)) ∧ onPtr t5.1.a fun a37 => elI .i64 (AH.cell? HL5 (qkm (qkm a37 (qku (qkl .i64 (((t5.1.n : Nat) : Int) - (1 : Int))) * 2)) 0)) fun n39 => ((8 : Int) : Int) ≠ 0 ∧ qV.j2 x0 x1 t5 it5 HL5 n25 ((n39 : Int) != (qkl .i64 (qlH (qkl .i64 (x1 + t5.2)) (8 : Int)))))) (k t5.1 true HL5)
def qV.b (x0 : Sl) (x1 : Int) (x2 : Sl) (H : AH) (k : Sl → Bool → AH → Prop) : Prop :=
 qbp x0 x1 ((x2.n : Nat) : Int) H fun b17 H17 => bcase (!b17) (k ⟨none, 0, 0⟩ false H17) (loopT (qV.l3 x0 x1 x2 k) ((⟨none, 0, 0⟩, (0 : Int)) : Sl × Int) H17)
def qV.ann : Ann := { keep := fun r => match r with | 5 => [(8, .sl), (21, .int .i64)] | _ => [], ord := fun r => match r with | 11 => [0, 1, 2, 3, 4, 5, 6, 7, 8, 9, 10, 11, 12, 13, 14, 15, 16, 17, 18, 19] | _ => [] }
theorem qV.link {x0 : Sl} {x1 : Int} {x2 : Sl} {H : AH} {k : Sl → Bool → AH → Prop} (h : qV.b x0 x1 x2 H k) : qV x0 x1 x2 H k := lk2 pan hT hm Tryz.func144 (by kernel_rfl) (A := qV.ann) (by kernel_rfl) (by simp) (by simp) (by kernel_rfl) h
def qbL.b (x0 : Sl) (x1 : Int) (x2 : Sl) (H : AH) (k : Sl → Int → AH → Prop) : Prop :=
 qbq x0 x1 ((x2.n : Nat) : Int) H fun n15 H15 => bcase ((n15 : Int) != (0 : Int)) (k ⟨none, 0, 0⟩ n15 H15) (qV x0 x1 x2 H15 fun s23a b23b H23 => k s23a (0 : Int) H23)
theorem qbL.link {x0 : Sl} {x1 : Int} {x2 : Sl} {H : AH} {k : Sl → Int → AH → Prop} (h : qbL.b x0 x1 x2 H k) : qbL x0 x1 x2 H k := lk2 pan hT hm Tryz.func104 (by kernel_rfl) (A := ann0) (by kernel_rfl) (by simp) (by simp) (by kernel_rfl) h
def qbu.b (x0 : Option Addr) (x1 : Int) (x2 : Sl) (H : AH) (pk : Value → AH → Prop) (k : AH → Prop) : Prop :=
 qaG x0 H (fun pv10 Hp10 => pk pv10 Hp10) fun s10 H10 => qbL s10 x1 x2 H10 fun s15a n15b H15 => qY n15b H15 (fun pv19 Hp19 => pk pv19 Hp19) fun H19 => bcase ((((s15a.n : Nat) : Int) : Int) == (0 : Int)) (k H19) (qaf x0 H19 (fun pv24 Hp24 => pk pv24 Hp24) fun H24 => qz x0 s10 s15a H24 (fun pv28 Hp28 => pk pv28 Hp28) fun H28 => k H28)
theorem qbu.link {x0 : Option Addr} {x1 : Int} {x2 : Sl} {H : AH} {pk : Value → AH → Prop} {k : AH → Prop} (h : qbu.b x0 x1 x2 H pk k) : qbu x0 x1 x2 H pk k := lk0 pan hT hm Tryz.func52 (by kernel_rfl) (A := ann0) (by kernel_rfl) (by kernel_rfl) h
def qai.j1 (x0 : Option Addr) (x1 : Int) (k : AH → Prop) (pk : Value → AH → Prop) (x14 : Bool) (Hj : AH) : Prop :=
 bcase x14 (pk (Value.iface 37 (qki .i64 (1 : Int))) Hj) (qaf x0 Hj (fun pv17 Hp17 => pk pv17 Hp17) fun H17 => onPtr x0 fun a19 => elP (AH.cell? H17 (qkm a19 0)) fun p21 => qA p21 (2 : Int) (qkl .u64 x1) H17 fun n24 H24 => qY n24 H24 (fun pv25 Hp25 => pk pv25 Hp25) fun H25 => k H25)
def qai.b (x0 : Option Addr) (x1 : Int) (H : AH) (pk : Value → AH → Prop) (k : AH → Prop) : Prop :=
 qaG x0 H (fun pv6 Hp6 => pk pv6 Hp6) fun s6 H6 => bcase ((x1 : Int) != (0 : Int)) (qbT s6 x1 H6 fun b12 H12 => qai.j1 x0 x1 k pk (!b12) H12) (qai.j1 x0 x1 k pk false H6)
theorem qai.link {x0 : Option Addr} {x1 : Int} {H : AH} {pk : Value → AH → Prop} {k : AH → Prop} (h : qai.b x0 x1 H pk k) : qai x0 x1 H pk k := lk0 pan hT hm Tryz.func53 (by kernel_rfl) (A := ann0) (by kernel_rfl) (by kernel_rfl) h
def pl (a b c d : Int) : List Value := [.int .i64 a, .int .i64 b, .int .i64 c, .int .i64 d]
def mayP (a b c d : Int) : Bool := decide (1 ≤ a ∧ a ≤ 64 ∧ 0 ≤ b ∧ b ≤ 16 ∧ 1 ≤ c ∧ c ≤ 1000 ∧ 1 ≤ d ∧ d ≤ 100)
def wordsP (a b c d : Int) : Int := if mayP a b c d = true then 8 * a else 0
def pagesP (a b c d : Int) : Int := if mayP a b c d = true then (a + 3) / 4 else 0
def logicalP (a b c d : Int) : Int := if mayP a b c d = true then 16 + a else 0
def deviceP (a b c d : Int) : Int := if mayP a b c d = true then 17 + a + b else 0
def homeP (a b c d x : Int) : Int := if mayP a b c d = true ∧ 0 ≤ x ∧ x < a then 16 + x else -1
section
variable {a b c d x : Int} {H : AH} {e : Nat}
theorem pl_row : AH.row? (H.push ⟨pl a b c d, .rw, e⟩) ⟨H.size, 0, none⟩ 4 = some (pl a b c d) := row_new rfl rfl
theorem pl_ld {k : List Value → Prop} : ldA (H.push ⟨pl a b c d, .rw, e⟩) ⟨H.size, 0, none⟩ 4 k ↔ k (pl a b c d) := qs pl_row
theorem pl_0 : AH.cell? (H.push ⟨pl a b c d, .rw, e⟩) (qkm ⟨H.size, 0, none⟩ 0) = some (.int .i64 a) := qc7 _ _ _ _
theorem pl_1 : AH.cell? (H.push ⟨pl a b c d, .rw, e⟩) (qkm ⟨H.size, 0, none⟩ 1) = some (.int .i64 b) := qc7 _ _ _ _
theorem pl_2 : AH.cell? (H.push ⟨pl a b c d, .rw, e⟩) (qkm ⟨H.size, 0, none⟩ 2) = some (.int .i64 c) := qc7 _ _ _ _
theorem pl_3 : AH.cell? (H.push ⟨pl a b c d, .rw, e⟩) (qkm ⟨H.size, 0, none⟩ 3) = some (.int .i64 d) := qc7 _ _ _ _
theorem qP : mayP a b c d = true ↔ 1 ≤ a ∧ a ≤ 64 ∧ 0 ≤ b ∧ b ≤ 16 ∧ 1 ≤ c ∧ c ≤ 1000 ∧ 1 ≤ d ∧ d ≤ 100 := by simp [mayP]
theorem hK {o : AObj} {P : Prop} : (qa H (H.push o) ∧ P) ↔ P := ⟨fun h => h.2, fun h => ⟨(qa.refl H).push _, h⟩⟩
theorem qaT.s {k : Bool → AH → Prop} (h : k (mayP a b c d) H) : qaT (pl a b c d) H k := by
 refine gcB (mayP a b c d) (qaT.link ?_) h
 simp only [qaT.b, qt, pl_0, pl_1, pl_2, pl_3, qh, qi, decide_eq_true_eq, hK]
 repeat' split
 all_goals simp only [mayP, decide_eq_decide, Bool.false_eq, decide_eq_false_iff_not]
 all_goals omega
theorem qae.s {k : Bool → AH → Prop} (h : k (mayP a b c d) H) : qae (pl a b c d) H k := by
 refine gcB (mayP a b c d) (qae.link ?_) h
 simp only [qae.b, qt, pl_0, pl_1, pl_2, pl_3, qh, qi, decide_eq_true_eq, hK]
 repeat' split
 all_goals simp only [mayP, decide_eq_decide, Bool.false_eq, decide_eq_false_iff_not]
 all_goals omega
theorem qbV.s {k : Int → AH → Prop} (h : k (wordsP a b c d) H) : qbV (pl a b c d) H k := by
 refine gcI (wordsP a b c d) (qbV.link ?_) h
 simp only [qbV.b, qt, pl_ld]
 refine qaT.s ?_
 simp only [pl_0, qh, qi, hK, wordsP, qlu]
 cases hm : mayP a b c d
 ·simp
 ·have := qP.1 hm
  simp only [Bool.true_eq_false, eq_self, if_false, if_true]
  rw [qf (by omega) (by omega)]
  omega
theorem qbO.s {k : Int → AH → Prop} (hx : -9223372036854775808 ≤ x ∧ x ≤ 9223372036854775807) (h : k ((if 0 > x then 0 else x) / 4) H) : qbO x H k := by
 refine gcI ((if 0 > x then 0 else x) / 4) (qbO.link ?_) h
 refine ⟨by decide, qa.refl H, ?_⟩
 have : (0 : Int) ≤ (if 0 > x then 0 else x) := by split <;> omega
 rw [qlg this, qf (by split <;> omega) (by split <;> omega)]
theorem qbW.s {k : Int → AH → Prop} (h : k (pagesP a b c d) H) : qbW (pl a b c d) H k := by
 refine gcI (pagesP a b c d) (qbW.link ?_) h
 simp only [qbW.b, qt, pl_ld]
 refine qaT.s ?_
 simp only [pl_0, qh, qi, hK, pagesP, qlu]
 cases hm : mayP a b c d
 ·simp
 ·have := qP.1 hm
  simp only [Bool.true_eq_false, eq_self, if_false, if_true]
  rw [qf (by omega) (by omega)]
  refine qbO.s (by omega) ?_
  rw [qf (by split <;> omega) (by split <;> omega)]
  simp only [hK]
  split <;> omega
theorem qa8.s {k : Int → AH → Prop} (h : k (logicalP a b c d) H) : qa8 (pl a b c d) H k := by
 refine gcI (logicalP a b c d) (qa8.link ?_) h
 simp only [qa8.b, qt, pl_ld]
 refine qaT.s ?_
 simp only [pl_0, qh, qi, hK, logicalP, qlu]
 cases hm : mayP a b c d
 ·simp
 ·have := qP.1 hm
  simp only [Bool.true_eq_false, eq_self, if_false, if_true]
  rw [qf (by omega) (by omega)]
theorem qaS.s {k : Int → AH → Prop} (h : k (deviceP a b c d) H) : qaS (pl a b c d) H k := by
 refine gcI (deviceP a b c d) (qaS.link ?_) h
 simp only [qaS.b, qt, pl_ld]
 refine qaT.s ?_
 simp only [pl_0, pl_1, qh, qi, hK, deviceP, qlu]
 cases hm : mayP a b c d
 ·simp
 ·have := qP.1 hm
  simp only [Bool.true_eq_false, eq_self, if_false, if_true]
  rw [pl_ld]
  refine qa8.s ?_
  refine ⟨pl_1, ?_⟩
  simp only [logicalP, hm, if_true, hK]
  rw [qf (n := 16 + a + 1) (by omega) (by omega), qf (by omega) (by omega)]
  omega
theorem qaB.s {k : Int → AH → Prop} (h : k (deviceP a b c d) H) : qaB (pl a b c d) H k := by
 refine gcI (deviceP a b c d) (qaB.link ?_) h
 simp only [qaB.b, qt, pl_ld]
 refine qae.s ?_
 simp only [pl_0, pl_1, qh, qi, hK, deviceP, qlu]
 cases hm : mayP a b c d
 ·simp
 ·have := qP.1 hm
  simp only [Bool.true_eq_false, eq_self, if_false, if_true]
  rw [qf (n := 16 + a) (by omega) (by omega), qf (n := 16 + a + 1) (by omega) (by omega), qf (by omega) (by omega)]
  omega
theorem qa3.s {k : Int → AH → Prop} (h : k (homeP a b c d x) H) : qa3 (pl a b c d) x H k := by
 refine gcI (homeP a b c d x) (qa3.link ?_) h
 simp only [qa3.b, qt, pl_ld]
 refine qaT.s ?_
 simp only [pl_0, pl_1, qh, qi, hK, homeP, qlu, decide_eq_true_eq]
 cases hm : mayP a b c d
 ·simp
 ·have := qP.1 hm
  simp only [Bool.true_eq_false, eq_self, if_false, true_and]
  split
  ·rw [if_neg (by omega)]
  ·split
   ·rw [if_neg (by omega)]
   ·rw [if_pos (by omega), qf (by omega) (by omega)]
end
def opl (K a b c : Int) (s : Sl) : List Value := [.int .i64 K, .int .i64 a, .int .i64 b, .int .i64 c, s.val]
def linesP (K b : Int) (n : Nat) : Int :=
 if K = 1 then (if 0 ≤ b ∧ b ≤ 448 then b / 64 + 4 else 0) else if K = 4 then (if n ≤ 448 then (n : Int) / 64 + 2 else 0) else if K = 2 then 1 else 0
section
variable {K a b c d m x : Int} {sl : Sl} {H : AH} {e : Nat}
theorem elL_val {k : Sl → Prop} : elL (some sl.val) k ↔ k sl := qaU _ _ _ _
theorem qer : 0 ≤ linesP K b sl.n ∧ linesP K b sl.n ≤ 11 := by
 unfold linesP
 repeat' split
 all_goals omega
theorem op_len : (opl K a b c sl).length = 5 := rfl
theorem op_ok : (opl K a b c sl).all qq = true := rfl
end
def isU (n : Int) : Prop := 0 ≤ n ∧ n ≤ 18446744073709551615
def isI (n : Int) : Prop := -9223372036854775808 ≤ n ∧ n ≤ 9223372036854775807
def isB (n : Int) : Prop := 0 ≤ n ∧ n ≤ 255
def iV (v : Int) : List Value := [.int .i64 v]
def wU (v : Int) : List Value := [.int .u64 v]
def bU (v : Int) : List Value := [.int .u8 v]
end Go.Proofs.YtemeclnpdpkfdaaGreat
namespace Go.Abs
theorem own_len {α : Type} {B : Nat} {H : AH} {s : Sl} {z : Nat} {f : α → List Value} {l : List α} (h : Own B H s z f l) : s.n = l.length := by
 rcases h with ⟨rfl, rfl⟩ | ⟨b, rfl, _, _, _⟩ <;> rfl
theorem qi4 {α : Type} {cells : List Value} {z : Nat} {f : α → List Value} : ∀ {l : List α} {o : Nat}, (∀ i x, l[i]? = some x → (cells.drop (o + i * z)).take z = f x ∧ (f x).length = z) → (cells.drop o).take (l.length * z) = l.flatMap f := by
 intro l
 induction l with
 | nil => intro o _; simp
 | cons a r ih =>
  intro o h
  have h0 := h 0 a rfl
  rw [Nat.zero_mul, Nat.add_zero] at h0
  have hr := ih (o := o + z) fun i x hx => by
   have := h (i + 1) x (by simpa using hx)
   rw [show o + z + i * z = o + (i + 1) * z by rw [Nat.add_mul]; omega]
   exact this
  simp only [qkA, qkZ]
  rw [Nat.add_mul, Nat.one_mul, Nat.add_comm, List.take_add, h0.1, List.drop_drop, hr]
theorem qf4 {α : Type} {H : AH} {s : Sl} {z : Nat} {f : α → List Value} {l : List α} (hf : ∀ x, (f x).length = z) (hc : ∀ x, (f x).all qq = true) (h : Rows H s z f l) : AH.rowS? H s z = some (l.flatMap f) := by
 simp only [AH.rowS?]
 by_cases h0 : s.n = 0
 ·rw [if_pos h0]
  have : l = [] := List.length_eq_zero_iff.1 (by rw [← h.1]; exact h0)
  subst this; rfl
 ·rw [if_neg h0]
  have hpos : 0 < l.length := by rw [← h.1]; omega
  obtain ⟨b, o, ha, hb, _⟩ := h.at hpos
  have hrow : ∀ i x, l[i]? = some x → AH.row? H ⟨b, o + i * z, none⟩ z = some (f x) := by
   intro i x hx
   obtain ⟨a, e1, e2, e3, e4⟩ := h.2 i x hx
   rw [ha] at e1
   injection e1 with e1
   subst e1
   exact e4
  have hun : ∀ i x, l[i]? = some x → (H.get b).md ≠ .dead ∧ ((H.get b).cells.drop (o + i * z)).take z = f x ∧ o + i * z + z ≤ (H.get b).cells.length := by
   intro i x hx
   have := hrow i x hx
   simp only [AH.row?, qkC, qkt, if_false] at this
   split at this
   ·cases this
   ·rename_i hd
    split at this
    ·rename_i hh
     injection this with this
     exact ⟨hd, this, hh.1⟩
    ·cases this
  have hl := hun (l.length - 1) l[l.length - 1] (qkj (by omega))
  have hflat := qi4 (cells := (H.get b).cells) (z := z) (f := f) (l := l) (o := o) fun i x hx => ⟨(hun i x hx).2.1, hf x⟩
  have hle : o + l.length * z ≤ (H.get b).cells.length := by
   have := hl.2.2
   obtain ⟨n, hn⟩ : ∃ n, l.length = n + 1 := ⟨l.length - 1, by omega⟩
   rw [hn] at this ⊢
   rw [Nat.add_sub_cancel] at this
   rw [Nat.add_mul]
   omega
  have hall : (l.flatMap f).all qq = true := by simp [List.all_flatMap, hc]
  rw [ha]
  simp only [AH.row?, qkC, qkt, if_false]
  rw [if_neg hl.1, h.1, hflat, if_pos ⟨hle, hall⟩]
theorem qhr {α : Type} {H0 H : AH} {B : Nat} {s t : Sl} {z : Nat} {f : α → List Value} {l r : List α} {k : Sl → AH → Prop} (hf : ∀ x, (f x).length = z) (hc : ∀ x, (f x).all qq = true)
  (hO : Own B H s z f l) (hR : Rows H t z f r) (hB : H0.size ≤ B) (hBH : B ≤ H.size) (hK : qa H0 H) (hlim : l.length + r.length ≤ limS z)
  (h : ∀ s' H', Own B H' s' z f (l ++ r) → qa H0 H' → H.size ≤ H'.size → (∀ b, b < H.size → (∀ a, s.a = some a → b ≠ a.block) → H'.get b = H.get b) → k s' H') :
  appendC z H s t k := by
 have hrow := qf4 hf hc hR
 have hge := hK.1
 have hs : s.n = l.length := own_len hO
 refine ⟨by rw [hs, hR.1]; exact hlim, ?_⟩
 by_cases h0 : t.n = 0
 ·rw [if_pos h0]
  have : r = [] := List.length_eq_zero_iff.1 (by rw [← hR.1]; exact h0)
  subst this
  refine h _ _ (by rw [List.append_nil]; exact hO) hK (qks _) fun _ _ _ => rfl
 rw [if_neg h0]
 refine ⟨_, hrow, ?_⟩
 have ht := hR.1
 rcases hO with ⟨rfl, rfl⟩ | ⟨b, rfl, hb1, hb2, hg⟩
 ·refine h _ _ (.inr ⟨H.size, ?_, ?_, ?_, ?_⟩) (hK.push _) (by simp [qj]) ?_
  ·simp [newAt, ht]
  ·omega
  ·simp [qj]
  ·simp [qp]
  ·intro b hb _; exact qF (by omega)
 ·refine ⟨⟨rfl, rfl, rfl, by rw [hg], by rw [hg, qc6 hf], by rw [hg]⟩, ?_⟩
  refine h _ _ (.inr ⟨H.size, ?_, ?_, ?_, ?_⟩) ((hK.kill (b := b) (Nat.le_trans hB hb1)).push _) (by simp [qj, qaR]) ?_
  ·simp [newAt, ht]
  ·omega
  ·simp [qj, qaR]
  ·simp only [qp, qaR, if_true]
   rw [hg]
   simp
  ·intro b' hb' hne
   have hne' : b' ≠ b := hne _ rfl
   rw [qF (by simp only [qaR]; omega), qdb hne']
theorem qe3 {α : Type} {H0 H : AH} {B : Nat} {s t : Sl} {z : Nat} {f : α → List Value} {l r : List α} {k : Sl → AH → Prop} (hf : ∀ x, (f x).length = z) (hc : ∀ x, (f x).all qq = true)
  (hO : Own B H s z f l) (hR : Rows H t z f r) (hB : H0.size ≤ B) (hBH : B ≤ H.size) (hK : qa H0 H) (hlim : l.length + r.length ≤ lim)
  (h : ∀ s' H', Own B H' s' z f (l ++ r) → qa H0 H' → H.size ≤ H'.size → (∀ b, b < H.size → (∀ a, s.a = some a → b ≠ a.block) → H'.get b = H.get b) → k s' H') :
  appendC z H s t k := qhr hf hc hO hR hB hBH hK (le_limS hlim z) h
theorem qfL {α : Type} {H : AH} {s : Sl} {z : Nat} {f : α → List Value} {l : List α} {k : Nat} (h : Rows H s z f l) (hk : k ≤ l.length) : Rows H ⟨s.a, k, 0⟩ z f (l.take k) := by
 refine ⟨by simp; omega, fun i x hi => h.2 i x ?_⟩
 rw [qk9] at hi
 split at hi
 ·exact hi
 ·cases hi
theorem qfP {α : Type} {H : AH} {s : Sl} {z : Nat} {f : α → List Value} {l : List α} {k : Nat} (h : Rows H s z f l) (hk : k ≤ l.length) : Rows H ⟨Option.map (fun x => qkm x (k * z)) s.a, s.n - k, 0⟩ z f (l.drop k) := by
 refine ⟨by simp [h.1], fun i x hi => ?_⟩
 rw [qla] at hi
 obtain ⟨a, h1, h2, h3, h4⟩ := h.2 _ _ hi
 obtain ⟨b, o, sp⟩ := a
 simp only at h2 h3 h4
 subst h2
 refine ⟨⟨b, o + k * z, none⟩, by rw [h1, Option.map_some, qk], rfl, h3, ?_⟩
 rw [← h4]
 simp only
 congr 2
 rw [Nat.add_mul]; omega
def getB (v : Int) (j : Nat) : Int := (v / 2 ^ (8 * j)) % 256
def setB (v : Int) (j : Nat) (c : Int) : Int :=
 ((((qk5 64 v) &&& ~~~(BitVec.ofNat 64 (255 * 2 ^ (8 * j)))) ||| (BitVec.ofNat 64 (c.toNat * 2 ^ (8 * j)))).toNat : Int)
theorem qie (v : Int) (j : Nat) (c : Int) : 0 ≤ setB v j c ∧ setB v j c ≤ 18446744073709551615 := by
 unfold setB
 have := (((qk5 64 v) &&& ~~~(BitVec.ofNat 64 (255 * 2 ^ (8 * j)))) ||| (BitVec.ofNat 64 (c.toNat * 2 ^ (8 * j)))).isLt
 omega
theorem qff (n j : Nat) : getB (n : Int) j = ((n / 2 ^ (8 * j)) % 256 : Nat) := by
 unfold getB
 rw [Int.natCast_emod, Int.natCast_ediv, Int.natCast_pow]
 rfl
theorem qdz (n j t : Nat) : ((n / 2 ^ (8 * j)) % 256).testBit t = (decide (t < 8) && n.testBit (8 * j + t)) := by
 have : (256 : Nat) = 2 ^ 8 := rfl
 rw [this, Nat.testBit_mod_two_pow, Nat.testBit_div_two_pow, Nat.add_comm]
theorem qf0 {v c : Int} {j : Nat} (hj : j < 8) (hc : 0 ≤ c ∧ c ≤ 255) : getB (setB v j c) j = c := by
 obtain ⟨n, rfl⟩ := qkF hc.1
 unfold setB
 rw [qff]
 congr 1
 apply Nat.eq_of_testBit_eq
 intro t
 rw [qdz, BitVec.testBit_toNat]
 simp only [qko]
 have hn : n < 2 ^ 8 := by omega
 by_cases ht : t < 8
 ·have h64 : 8 * j + t < 64 := by omega
  simp only [ht, decide_true, Bool.true_and, BitVec.getLsbD_or, BitVec.getLsbD_and, BitVec.getLsbD_not, BitVec.getLsbD_ofNat, h64, Nat.testBit_mul_two_pow]
  rw [show decide (8 * j + t ≥ 8 * j) = true from by simp, show 8 * j + t - 8 * j = t from by omega]
  have h255 : Nat.testBit 255 t = true := by
   have : (255 : Nat) = 2 ^ 8 - 1 := rfl
   rw [this, Nat.testBit_two_pow_sub_one]; simpa using ht
  simp [h255]
 ·have : n.testBit t = false := Nat.testBit_lt_two_pow (qlp hn (Nat.pow_le_pow_right (by omega) (by omega)))
  simp [ht, this]
theorem qfz {v c : Int} {j i : Nat} (hv : 0 ≤ v ∧ v ≤ 18446744073709551615) (hj : j < 8) (hi : i < 8) (hij : i ≠ j) (hc : 0 ≤ c ∧ c ≤ 255) : getB (setB v j c) i = getB v i := by
 obtain ⟨n, rfl⟩ := qkF hc.1
 obtain ⟨m, rfl⟩ := qkF hv.1
 unfold setB
 rw [qff, qff]
 congr 1
 apply Nat.eq_of_testBit_eq
 intro t
 rw [qdz, qdz, BitVec.testBit_toNat]
 simp only [qko]
 have hn : n < 2 ^ 8 := by omega
 by_cases ht : t < 8
 ·have h64 : 8 * i + t < 64 := by omega
  simp only [ht, decide_true, Bool.true_and, BitVec.getLsbD_or, BitVec.getLsbD_and, BitVec.getLsbD_not, BitVec.getLsbD_ofNat, h64, Nat.testBit_mul_two_pow, BitVec.ofInt_natCast]
  have hz : ∀ q : Nat, q < 2 ^ 8 → (decide (8 * i + t ≥ 8 * j) && q.testBit (8 * i + t - 8 * j)) = false := by
   intro q hq
   by_cases hge : 8 * i + t ≥ 8 * j
   ·have : 8 ≤ 8 * i + t - 8 * j := by omega
    rw [Nat.testBit_lt_two_pow (qlp hq (Nat.pow_le_pow_right (by omega) this))]; simp
   ·simp [hge]
  rw [hz 255 (by omega), hz n hn]
  simp
 ·simp [ht]
theorem qkc {v : Int} (hv : 0 ≤ v ∧ v ≤ 18446744073709551615) {j : Nat} (hj : j < 8) : qkl .u8 (shrI .u64 v (8 * (j : Int))) = getB v j := by
 unfold shrI getB
 rw [show (min ((8 * (j : Int)).toNat) (qli .u64)) = 8 * j from by simp [qli]; omega]
 rw [Int.fdiv_eq_ediv_of_nonneg _ (Int.pow_nonneg (by omega))]
 simp only [qkl, qli, IntKind.signed, Bool.false_and, Int.reducePow, qkt, if_false]
theorem qdj (x : Int) : qk5 64 (qkl .u64 x) = qk5 64 x := by
 simp only [qkl, qli, IntKind.signed, Bool.false_and, qkt, if_false]
 apply BitVec.eq_of_toInt_eq
 simp only [BitVec.toInt_ofInt]
 exact Int.emod_bmod x (2 ^ 64)
theorem qjP (n : Nat) (h : n < 2 ^ 64) : qkl .u64 (n : Int) = n := qbe (by omega) (by omega)
theorem qjC {v c : Int} (hc : 0 ≤ c ∧ c ≤ 255) {j : Nat} (hj : j < 8) :
  orI .u64 (andNotI .u64 v (shlI .u64 255 (8 * (j : Int)))) (shlI .u64 (qkl .u64 c) (8 * (j : Int))) = setB v j c := by
 have h1 : ∀ x : Int, shlI .u64 x (8 * (j : Int)) = qkl .u64 (x * 2 ^ (8 * j)) := by
  intro x
  unfold shlI
  rw [show (min ((8 * (j : Int)).toNat) (qli .u64)) = 8 * j from by simp [qli]; omega]
 have h2 : ∀ a b : Int, andNotI .u64 a b = qkl .u64 ((qk5 64 a &&& ~~~(qk5 64 b)).toNat : Int) := fun _ _ => rfl
 have h3 : ∀ a b : Int, orI .u64 a b = qkl .u64 ((qk5 64 a ||| qk5 64 b).toNat : Int) := fun _ _ => rfl
 rw [h3, h2, h1, h1, qbe (n := c) (by omega) (by omega), qdj, qdj, qdj, qjP _ (BitVec.isLt _)]
 unfold setB
 obtain ⟨n, rfl⟩ := qkF hc.1
 have e1 : (255 : Int) * 2 ^ (8 * j) = ((255 * 2 ^ (8 * j) : Nat) : Int) := by rw [Int.natCast_mul, Int.natCast_pow]; rfl
 have e2 : (n : Int) * 2 ^ (8 * j) = ((n * 2 ^ (8 * j) : Nat) : Int) := by rw [Int.natCast_mul, Int.natCast_pow]; rfl
 rw [e1, e2]
 simp only [BitVec.ofInt_natCast, qko, BitVec.ofNat_toNat, BitVec.setWidth_eq]
end Go.Abs
namespace Go.Proofs.YtemeclnpdpkfdaaGreat
open Go Go.Abs
theorem qjs {H : AH} {b o : Nat} {v : Value} (h : AH.row? H ⟨b, o, none⟩ 1 = some [v]) : AH.cell? H ⟨b, o, none⟩ = some v := by
 have := (AH.row?_cell h).2.2.2.2 0 v rfl
 simpa using this
theorem qb0 {α : Type} {H : AH} {s : Sl} {g : α → Value} {l : List α} (h : qkO H s 1 (fun x => [g x]) l) {i : Nat} (hi : i < l.length) :
  ∃ b o, s.a = some ⟨b, o, none⟩ ∧ b < H.size ∧ AH.cell? H (qkm ⟨b, o, none⟩ (i * 1)) = some (g (l[i])) := by
 obtain ⟨b, o, h1, h2, h3⟩ := h.at hi
 refine ⟨b, o, h1, h2, ?_⟩
 rw [qk] at h3 ⊢
 exact qjs h3
def inside (len : Nat) (off n : Int) : Prop := 0 ≤ off ∧ 0 ≤ n ∧ n ≤ 448 ∧ off ≤ 8 * len - n
instance (len : Nat) (off n : Int) : Decidable (inside len off n) := by unfold inside; infer_instance
def byteAt (ws : List Int) (i : Nat) : Int := getB (ws.getD (i / 8) 0) (i % 8)
def bytesOf (ws : List Int) (off n : Nat) : List Int := (qk3 n).map fun j => byteAt ws (off + j)
def qam (ws : List Int) : Prop := ∀ v ∈ ws, 0 ≤ v ∧ v ≤ 18446744073709551615
section
variable {off n : Int} {H : AH} {sl : Sl}
theorem qbp.s {k : Bool → AH → Prop} (hs : sl.n ≤ 1000000000) (ho : -9223372036854775808 ≤ off ∧ off ≤ 9223372036854775807) (h : k (decide (inside sl.n off n)) H) : qbp sl off n H k := by
 refine gcB (decide (inside sl.n off n)) (qbp.link ?_) h
 simp only [qbp.b, qi, decide_eq_true_eq, qa.refl, true_and]
 by_cases h1 : off ≥ 0
 ·rw [if_pos h1]
  by_cases h2 : n ≥ 0
  ·rw [if_pos h2]
   by_cases h3 : n ≤ 448
   ·rw [if_pos h3, qf (n := (sl.n : Int) * 8) (by omega) (by omega), qf (by omega) (by omega)]
    refine decide_eq_decide.2 ?_; unfold inside; omega
   ·rw [if_neg h3]; refine (decide_eq_false ?_).symm; unfold inside; omega
  ·rw [if_neg h2]; refine (decide_eq_false ?_).symm; unfold inside; omega
 ·rw [if_neg h1]; refine (decide_eq_false ?_).symm; unfold inside; omega
theorem qbm.s {ws : List Int} {k : Sl → Bool → AH → Prop} (hw : qkO H sl 1 wU ws) (h64 : qam ws) (hlen : ws.length ≤ 1000000) (ho : -9223372036854775808 ≤ off ∧ off ≤ 9223372036854775807)
  (h1 : inside ws.length off n → ∀ s H', qa H H' → Own H.size H' s 1 bU (bytesOf ws off.toNat n.toNat) → k s true H') (h0 : ¬ inside ws.length off n → k ⟨none, 0, 0⟩ false H) : qbm sl off n H k := by
 refine qbm.link ?_
 unfold qbm.b
 have hn : sl.n = ws.length := hw.1
 refine qbp.s (by omega) ho ?_
 rw [hn]
 by_cases hin : inside ws.length off n
 ·rw [show decide (inside ws.length off n) = true from by simpa using hin, Bool.not_true, qc]
  have hin' := hin
  unfold inside at hin
  refine qL (t := ((⟨none, 0, 0⟩, off) : Sl × Int)) (H := H) (I := fun (t : Sl × Int) H' => ∃ j : Nat, t.2 = off + j ∧ (j : Int) ≤ n ∧ qa H H' ∧ Own H.size H' t.1 1 bU (bytesOf ws off.toNat j)) (m := fun (t : Sl × Int) _ => qku (off + n - t.2)) ?_ ?_
  ·intro t H1 hI it hit
   obtain ⟨s, i⟩ := t
   obtain ⟨j, hi, hj, hK, hO⟩ := hI
   simp only at hi hO
   subst hi
   have hR := hw.keep hK
   unfold qbm.l1
   simp only
   rw [qf (n := off + n) (by omega) (by omega)]
   by_cases hlt : (j : Int) < n
   ·rw [show decide (off + (j : Int) < off + n) = true from by simp; omega, qg]
    rw [qlg (by omega), Int.tmod_eq_emod_of_nonneg (by omega), qf (n := (off + (j : Int)) / 8) (by omega) (by omega), hn]
    have hidx : ((off + (j : Int)) / 8).toNat < ws.length := by omega
    obtain ⟨b, o, ha, hb, hcell⟩ := qb0 (g := fun v => qki .u64 v) hR hidx
    refine ⟨by decide, ⟨by omega, by omega⟩, ?_⟩
    rw [ha, qd, hcell, qh, qf (n := (off + (j : Int)) % 8 * 8) (by omega) (by omega)]
    refine ⟨by decide, by omega, ?_⟩
    have hjm : ((off + (j : Int)) % 8) = (((off.toNat + j) % 8 : Nat) : Int) := by omega
    have hidx' : ((off + (j : Int)) / 8).toNat = (off.toNat + j) / 8 := by omega
    have hv := h64 _ (qky hidx)
    have hbyte : qkl .u8 (shrI .u64 ws[((off + (j : Int)) / 8).toNat] ((off + (j : Int)) % 8 * 8)) = byteAt ws (off.toNat + j) := by
     rw [Int.mul_comm, hjm, qkc hv (by omega)]
     unfold byteAt
     rw [qkk, ← hidx', qkj hidx, qkU]
    rw [hbyte]
    simp only [qt]
    refine qbB (H0 := H) (B := H.size) (f := bU) (x := byteAt ws (off.toNat + j)) (l := bytesOf ws off.toNat j) (fun _ => rfl) rfl hO (qks _) hK.1 hK (by simp only [bytesOf, List.length_map, List.length_range, lim]; omega) ?_
    intro s' H' hO' hK' _ _
    rw [qf (n := off + (j : Int) + 1) (by omega) (by omega)]
    refine hit _ _ ⟨j + 1, by simp only; omega, by omega, hK', ?_⟩ (by simp only; omega)
    have : bytesOf ws off.toNat (j + 1) = bytesOf ws off.toNat j ++ [byteAt ws (off.toNat + j)] := by simp [bytesOf, qlo]
    rw [this]; exact hO'
   ·rw [show decide (off + (j : Int) < off + n) = false from by simp; omega, qc]
    have hjn : n.toNat = j := by omega
    exact h1 hin' _ _ hK (hjn ▸ hO)
  ·exact ⟨0, by simp, by omega, qa.refl H, .inl ⟨rfl, rfl⟩⟩
 ·rw [show decide (inside ws.length off n) = false from by simpa using hin, Bool.not_false, qg]
  exact h0 hin
end
end Go.Proofs.YtemeclnpdpkfdaaGreat
namespace Go.Abs
theorem qjN {α : Type} {f : α → List Value} {z : Nat} (hf : ∀ x, (f x).length = z) {j : Nat} {v : Value} (hj : j < z) : ∀ (l : List α) (i : Nat) (x y : α), l[i]? = some x → f y = (f x).set j v →
  (l.flatMap f).set (i * z + j) v = (l.set i y).flatMap f := by
 intro l
 induction l with
 | nil => intro i x y h; simp at h
 | cons a l ih =>
  intro i x y h hy
  cases i with
  | zero =>
   simp only [List.getElem?_cons_zero, Option.some.injEq] at h
   subst h
   simp only [Nat.zero_mul, qkE, qkZ, List.set_cons_zero]
   rw [hy, List.set_append_left _ _ (by rw [hf]; exact hj)]
  | succ i =>
   simp only [List.getElem?_cons_succ] at h
   simp only [qkZ, List.set_cons_succ]
   rw [← ih i x y h hy, List.set_append_right _ _ (by rw [hf, Nat.succ_mul]; omega)]
   congr 2
   rw [hf, Nat.succ_mul]; omega
theorem Own.cell {α : Type} {B : Nat} {H : AH} {s : Sl} {z : Nat} {f : α → List Value} {l : List α} (h : Own B H s z f l) (hf : ∀ x, (f x).length = z) {i : Nat} {x : α} (hi : l[i]? = some x) {j : Nat} (hj : j < z) :
  ∃ b, s.a = some ⟨b, 0, none⟩ ∧ B ≤ b ∧ b < H.size ∧ AH.cell? H ⟨b, i * z + j, none⟩ = (f x)[j]? := by
 rcases h with ⟨_, rfl⟩ | ⟨b, rfl, h1, h2, hg⟩
 ·simp at hi
 ·refine ⟨b, rfl, h1, h2, ?_⟩
  simp only [AH.cell?, hg, qkC, qkt, if_false]
  rw [if_neg (by simp)]
  have := qg9 hf l i x hi
  rw [← this, qk9, if_pos hj, qla]
theorem Own.put {α : Type} {B : Nat} {H : AH} {s : Sl} {z : Nat} {f : α → List Value} {l : List α} (h : Own B H s z f l) (hf : ∀ x, (f x).length = z) {i : Nat} {x y : α} (hi : l[i]? = some x) {j : Nat} (hj : j < z) {v : Value}
  (hy : f y = (f x).set j v) : ∃ b, s.a = some ⟨b, 0, none⟩ ∧ B ≤ b ∧ b < H.size ∧ AH.canPut H ⟨b, i * z + j, none⟩ 1 ∧ Own B (H.put ⟨b, i * z + j, none⟩ [v]) s z f (l.set i y) ∧
   ∀ b', b' ≠ b → (H.put ⟨b, i * z + j, none⟩ [v]).get b' = H.get b' := by
 rcases h with ⟨_, rfl⟩ | ⟨b, rfl, h1, h2, hg⟩
 ·simp at hi
 ·have hlt : i < l.length := (List.getElem?_eq_some_iff.1 hi).1
  have hle : i * z + j + 1 ≤ (l.flatMap f).length := by
   rw [qc6 hf]
   calc i * z + j + 1 ≤ i * z + z := by omega
    _ = (i + 1) * z := by rw [Nat.succ_mul]
    _ ≤ l.length * z := Nat.mul_le_mul_right _ hlt
  refine ⟨b, rfl, h1, h2, ⟨rfl, by rw [hg], by rw [hg]; exact hle⟩, .inr ⟨b, by simp, h1, h2, ?_⟩, fun b' hb' => ?_⟩
  ·simp only [AH.put, qO, if_true, hg, setMany]
   rw [qjN hf hj l i x y hi hy]
  ·simp only [AH.put, qO]; rw [if_neg hb']
end Go.Abs
namespace Go.Proofs.YtemeclnpdpkfdaaGreat
open Go Go.Abs
def putB (ws : List Int) (i : Nat) (c : Int) : List Int := ws.set (i / 8) (setB (ws.getD (i / 8) 0) (i % 8) c)
def putBs : List Int → Nat → List Int → List Int
 | ws, _, [] => ws
 | ws, i, c :: r => putBs (putB ws i c) (i + 1) r
def eU (x : Int × Int) : List Value := [.int .i64 x.1, .int .u64 x.2]
def editsOf (cur : List Int) (q m : Nat) : List (Int × Int) := (qk3 m).map fun j => (((q + j : Nat) : Int), cur.getD (q + j) 0)
def touched (off k : Nat) : Nat := if k = 0 then 0 else (off + k - 1) / 8 - off / 8 + 1
def qbR (bs : List Int) : Prop := ∀ v ∈ bs, 0 ≤ v ∧ v ≤ 255
theorem qc9 (ws : List Int) (i : Nat) (c : Int) : (putB ws i c).length = ws.length := by simp [putB]
theorem qca : ∀ (bs ws : List Int) (i : Nat), (putBs ws i bs).length = ws.length := by
 intro bs
 induction bs with
 | nil => intro ws i; rfl
 | cons c r ih => intro ws i; simp [putBs, ih, qc9]
theorem qiB : ∀ (bs ws : List Int) (i : Nat) (c : Int), putBs ws i (bs ++ [c]) = putB (putBs ws i bs) (i + bs.length) c := by
 intro bs
 induction bs with
 | nil => intro ws i c; rfl
 | cons b r ih => intro ws i c; simp only [qkV, putBs, ih, qkA]; congr 1; omega
theorem qeE (ws : List Int) (i : Nat) (c : Int) (w : Nat) (h : i / 8 < ws.length) : (putB ws i c).getD w 0 = if w = i / 8 then setB (ws.getD (i / 8) 0) (i % 8) c else ws.getD w 0 := by
 unfold putB
 simp only [qkk]
 by_cases hw : w = i / 8
 ·subst hw; simp [h]
 ·rw [if_neg hw, qkK (by omega)]
theorem qeF : ∀ (bs ws : List Int) (i w : Nat), (i + bs.length ≤ w * 8 ∨ w < i / 8) → i + bs.length ≤ ws.length * 8 → (putBs ws i bs).getD w 0 = ws.getD w 0 := by
 intro bs
 induction bs with
 | nil => intro ws i w _ _; rfl
 | cons c r ih =>
  intro ws i w h hl
  simp only [qkA] at h hl
  simp only [putBs]
  rw [ih _ _ _ (by omega) (by rw [qc9]; omega), qeE _ _ _ _ (by omega), if_neg (by omega)]
section
variable {off : Nat} {H : AH} {x0 x2 : Sl}
theorem qbr (cur : List Int) (q m : Nat) : (editsOf cur q m).length = m := by simp [editsOf]
theorem qc8 {cur : List Int} {q m i : Nat} (h : i < m) : (editsOf cur q m)[i]? = some (((q + i : Nat) : Int), cur.getD (q + i) 0) := by
 simp [editsOf, h]
theorem qeN {ws : List Int} (h : qam ws) (i : Nat) (c : Int) : qam (putB ws i c) := by
 intro v hv
 unfold putB at hv
 rcases qll hv with hv | rfl
 ·exact h v hv
 ·exact qie _ _ _
theorem qhL {cur : List Int} {q m i : Nat} {c : Int} (hm : 1 ≤ m) (hi : i / 8 = q + m - 1) (hl : i / 8 < cur.length) :
  (editsOf cur q m).set (m - 1) (((i / 8 : Nat) : Int), setB (cur.getD (i / 8) 0) (i % 8) c) = editsOf (putB cur i c) q m := by
 apply qkH
 intro j
 by_cases hj : j < m
 ·rw [qc8 hj, qeE _ _ _ _ hl]
  by_cases hjm : j = m - 1
  ·subst hjm
   rw [qkY (by rw [qbr]; omega), if_pos (by omega), show q + (m - 1) = i / 8 from by omega]
  ·rw [qkK (by omega), qc8 hj, if_neg (by omega)]
 ·rw [qkp (by rw [List.length_set, qbr]; omega), qkp (by rw [qbr]; omega)]
theorem qhm {it : Sl × Int → AH → Prop} {H0 H1 : AH} {s : Sl} {cur : List Int} {k m : Nat} {c : Int} {t : Sl × Int} (ht : t.2 = (k : Int)) (hK : qa H0 H1) (hO : Own H0.size H1 s 2 eU (editsOf cur (off / 8) m)) (hm : 1 ≤ m) (hm' : m ≤ 1000)
  (hi : (off + k) / 8 = off / 8 + m - 1) (hl : (off + k) / 8 < cur.length) (hc : 0 ≤ c ∧ c ≤ 255) (hoff : off + k ≤ 100000000)
  (hit : ∀ H', qa H0 H' → Own H0.size H' s 2 eU (editsOf (putB cur (off + k) c) (off / 8) m) → it (s, (k : Int) + 1) H') : qV.j1 (off : Int) t it c s H1 := by
 unfold qV.j1
 have hlen : s.n = m := by
  rcases hO with ⟨rfl, h⟩ | ⟨b, rfl, _, _, _⟩
  ·have := qbr cur (off / 8) m
   rw [h] at this; simpa using this
  ·simp [qbr]
 rw [hlen, ht, qf (n := (m : Int) - 1) (by omega) (by omega), qf (n := (off : Int) + (k : Int)) (by omega) (by omega)]
 have hidx : ((m : Int) - 1).toNat = m - 1 := by omega
 have hget := qc8 (cur := cur) (q := off / 8) (show m - 1 < m from by omega)
 have hq : off / 8 + (m - 1) = (off + k) / 8 := by omega
 rw [hq] at hget
 obtain ⟨b, ha, hb1, hb2, hcell⟩ := hO.cell (fun _ => rfl) hget (j := 1) (by omega)
 refine ⟨⟨by omega, by omega⟩, ?_⟩
 rw [ha, qd, hidx, qk, qk, qkE, hcell]
 have hmod : ((off : Int) + (k : Int)).tmod 8 = (((off + k) % 8 : Nat) : Int) := by rw [Int.tmod_eq_emod_of_nonneg (by omega)]; omega
 rw [hmod]
 show elI .u64 (some (qki .u64 (cur.getD ((off + k) / 8) 0))) _
 rw [qh, qf (n := (((off + k) % 8 : Nat) : Int) * 8) (by omega) (by omega), Int.mul_comm _ 8, qjC hc (by omega)]
 refine ⟨by decide, by omega, by decide, by omega, ?_⟩
 obtain ⟨b', ha', _, _, hcan, hO', hsame⟩ := hO.put (y := ((((off + k) / 8 : Nat) : Int), setB (cur.getD ((off + k) / 8) 0) ((off + k) % 8) c)) (fun _ => rfl) hget (j := 1) (by omega) (v := .int .u64 (setB (cur.getD ((off + k) / 8) 0) ((off + k) % 8) c)) rfl
 rw [ha] at ha'
 injection ha' with ha'
 injection ha' with ha'
 subst ha'
 refine ⟨hcan, ?_⟩
 rw [qf (n := (k : Int) + 1) (by omega) (by omega)]
 rw [qhL hm hi hl] at hO'
 exact hit _ (hK.put hb1 _) hO'
theorem own_n {α : Type} {B : Nat} {H : AH} {s : Sl} {z : Nat} {f : α → List Value} {l : List α} (h : Own B H s z f l) : s.n = l.length := by
 rcases h with ⟨rfl, rfl⟩ | ⟨b, rfl, _, _, _⟩ <;> rfl
theorem qg3 {it : Sl × Int → AH → Prop} {H0 H1 : AH} {s : Sl} {ws cur : List Int} {k m : Nat} {c : Int} {t : Sl × Int} (ht : t = (s, (k : Int))) (hw : qkO H1 x0 1 wU ws) (hcl : cur.length = ws.length) (hcw : cur.getD ((off + k) / 8) 0 = ws.getD ((off + k) / 8) 0)
  (hK : qa H0 H1) (hO : Own H0.size H1 s 2 eU (editsOf cur (off / 8) m)) (hm' : m ≤ 900)
  (hi : (off + k) / 8 = off / 8 + m) (hl : (off + k) / 8 < cur.length) (hc : 0 ≤ c ∧ c ≤ 255) (hoff : off + k ≤ 100000000) (hwl : ws.length ≤ 1000000)
  (hit : ∀ s' H', qa H0 H' → Own H0.size H' s' 2 eU (editsOf (putB cur (off + k) c) (off / 8) (m + 1)) → it (s', (k : Int) + 1) H') : qV.j2 x0 (off : Int) t it H1 c true := by
 subst ht
 unfold qV.j2
 rw [qg]
 simp only
 rw [qf (n := (off : Int) + (k : Int)) (by omega) (by omega), qlg (by omega), qf (n := ((off : Int) + (k : Int)) / 8) (by omega) (by omega), hw.1]
 refine ⟨by decide, by decide, ⟨by omega, by omega⟩, ?_⟩
 have hidx : (((off : Int) + (k : Int)) / 8).toNat = (off + k) / 8 := by omega
 have hlt : (off + k) / 8 < ws.length := by omega
 obtain ⟨b, o, ha, hb, hcell⟩ := qb0 (g := fun v => qki .u64 v) hw hlt
 rw [ha, qd, hidx, hcell, qh]
 refine ⟨rfl, ?_⟩
 rw [qt]
 have hx : [qki .i64 (((off : Int) + (k : Int)) / 8), qki .u64 ws[(off + k) / 8]] = eU ((((off + k) / 8 : Nat) : Int), cur.getD ((off + k) / 8) 0) := by
  rw [hcw]
  simp only [eU, qkk, qkj hlt, qkU]
  congr 1
 rw [hx]
 refine qbB (H0 := H0) (B := H0.size) (f := eU) (x := ((((off + k) / 8 : Nat) : Int), cur.getD ((off + k) / 8) 0)) (l := editsOf cur (off / 8) m) (fun _ => rfl) rfl hO (qks _) hK.1 hK (by rw [qbr]; simp only [lim]; omega) ?_
 intro s' H' hO' hK' _ _
 have hl' : editsOf cur (off / 8) m ++ [((((off + k) / 8 : Nat) : Int), cur.getD ((off + k) / 8) 0)] = editsOf cur (off / 8) (m + 1) := by
  simp only [editsOf, qlo, List.map_append, qld, List.map_nil, hi]
 rw [hl'] at hO'
 exact qhm rfl hK' hO' (by omega) (by omega) (by omega) hl hc hoff (fun H'' hK'' hO'' => hit s' H'' hK'' hO'')
theorem qV.s {ws bs : List Int} {k : Sl → Bool → AH → Prop} {offI : Int} (hw : qkO H x0 1 wU ws) (h64 : qam ws) (hwl : ws.length ≤ 1000000) (hb : qkO H x2 1 bU bs) (h8 : qbR bs) (ho : -9223372036854775808 ≤ offI ∧ offI ≤ 9223372036854775807)
  (h1 : inside ws.length offI bs.length → ∀ s H', qa H H' → Own H.size H' s 2 eU (editsOf (putBs ws offI.toNat bs) (offI.toNat / 8) (touched offI.toNat bs.length)) → k s true H')
  (h0 : ¬ inside ws.length offI bs.length → k ⟨none, 0, 0⟩ false H) : qV x0 offI x2 H k := by
 refine qV.link ?_
 unfold qV.b
 rw [hb.1]
 refine qbp.s (by rw [hw.1]; omega) ho ?_
 rw [hw.1]
 by_cases hin : inside ws.length offI bs.length
 ·rw [show decide (inside ws.length offI bs.length) = true from by simpa using hin, Bool.not_true, qc]
  have hin' := hin
  unfold inside at hin
  obtain ⟨off, rfl⟩ := qkF hin.1
  simp only [qko] at h1
  refine qL (t := ((⟨none, 0, 0⟩, (0 : Int)) : Sl × Int)) (H := H) (I := fun (t : Sl × Int) H' => ∃ j : Nat, t.2 = (j : Int) ∧ j ≤ bs.length ∧ qa H H' ∧ Own H.size H' t.1 2 eU (editsOf (putBs ws off (bs.take j)) (off / 8) (touched off j))) (m := fun (t : Sl × Int) _ => qku ((bs.length : Int) - t.2)) ?_ ?_
  ·intro t H1 hI it hit
   obtain ⟨s, i⟩ := t
   obtain ⟨j, hi, hj, hK, hO⟩ := hI
   simp only at hi hO
   subst hi
   have hR := hw.keep hK
   have hB := hb.keep hK
   unfold qV.l3
   simp only
   rw [hb.1]
   by_cases hlt : j < bs.length
   ·rw [show decide ((j : Int) < (bs.length : Int)) = true from by simpa using hlt, qg]
    obtain ⟨b, o, ha, hbb, hcell⟩ := qb0 (g := fun v => qki .u8 v) hB hlt
    refine ⟨⟨by omega, by omega⟩, ?_⟩
    rw [ha, qd, qko, hcell, qh]
    have hc := h8 _ (qky hlt)
    have hcl : (putBs ws off (bs.take j)).length = ws.length := qca _ _ _
    have hstep : putB (putBs ws off (bs.take j)) (off + j) bs[j] = putBs ws off (bs.take (j + 1)) := by
     rw [List.take_succ, qkj hlt, qlI, qiB, List.length_take, Nat.min_eq_left (by omega)]
    have hnext : ∀ s' H', qa H H' → Own H.size H' s' 2 eU (editsOf (putB (putBs ws off (bs.take j)) (off + j) bs[j]) (off / 8) (touched off (j + 1))) → it (s', (j : Int) + 1) H' := by
     intro s' H' hK' hO'
     rw [hstep] at hO'
     exact hit _ _ ⟨j + 1, by simp, by omega, hK', hO'⟩ (by simp only; omega)
    rw [own_n hO, qbr]
    have hlw : (off + j) / 8 < (putBs ws off (bs.take j)).length := by rw [hcl]; omega
    by_cases hj0 : j = 0
    ·subst hj0
     rw [show (((touched off 0 : Nat) : Int) == 0) = true from rfl, qg]
     refine qg3 (m := 0) (cur := putBs ws off (bs.take 0)) rfl hR hcl rfl hK hO (by omega) (by omega) hlw hc (by omega) hwl ?_
     intro s' H' hK' hO'
     have : touched off (0 + 1) = 0 + 1 := by simp [touched]
     exact hnext s' H' hK' (by rw [this]; exact hO')
    ·have htm : touched off j = (off + j - 1) / 8 - off / 8 + 1 := by simp [touched, hj0]
     have htn : touched off (j + 1) = (off + j) / 8 - off / 8 + 1 := by simp [touched]
     have hle : touched off j ≤ 60 := by omega
     rw [show (((touched off j : Nat) : Int) == 0) = false from by simp; omega, qc, qf (n := ((touched off j : Nat) : Int) - 1) (by omega) (by omega)]
     refine ⟨⟨by omega, by omega⟩, ?_⟩
     have hget := qc8 (cur := putBs ws off (bs.take j)) (q := off / 8) (show touched off j - 1 < touched off j from by omega)
     obtain ⟨b', ha', _, _, hcell'⟩ := hO.cell (fun _ => rfl) hget (j := 0) (by omega)
     have hidx : (((touched off j : Nat) : Int) - 1).toNat = touched off j - 1 := by omega
     rw [ha', qd, hidx, qk, qk, qkE, hcell']
     show elI .i64 (some (qki .i64 ((off / 8 + (touched off j - 1) : Nat) : Int))) _
     rw [qh, qf (n := (off : Int) + (j : Int)) (by omega) (by omega), qlg (by omega), qf (n := ((off : Int) + (j : Int)) / 8) (by omega) (by omega)]
     refine ⟨by decide, ?_⟩
     by_cases hsame : (off + j) / 8 = off / 8 + touched off j - 1
     ·rw [show ((((off / 8 + (touched off j - 1) : Nat) : Int)) != ((off : Int) + (j : Int)) / 8) = false from by simp; omega]
      unfold qV.j2
      rw [qc]
      refine qhm (m := touched off j) (cur := putBs ws off (bs.take j)) rfl hK hO (by omega) (by omega) hsame hlw hc (by omega) ?_
      intro H' hK' hO'
      exact hnext s H' hK' (by rw [show touched off (j + 1) = touched off j from by omega]; exact hO')
     ·rw [show ((((off / 8 + (touched off j - 1) : Nat) : Int)) != ((off : Int) + (j : Int)) / 8) = true from by simp; omega]
      refine qg3 (m := touched off j) (cur := putBs ws off (bs.take j)) rfl hR hcl ?_ hK hO (by omega) (by omega) hlw hc (by omega) hwl ?_
      ·exact qeF _ _ _ _ (.inl (by rw [List.length_take]; omega)) (by rw [List.length_take]; omega)
      ·intro s' H' hK' hO'
       exact hnext s' H' hK' (by rw [show touched off (j + 1) = touched off j + 1 from by omega]; exact hO')
   ·rw [show decide ((j : Int) < (bs.length : Int)) = false from by simpa using hlt, qc]
    have hjn : j = bs.length := by omega
    subst hjn
    rw [qlk] at hO
    exact h1 hin' _ _ hK hO
  ·exact ⟨0, rfl, by omega, qa.refl H, .inl ⟨rfl, rfl⟩⟩
 ·rw [show decide (inside ws.length offI bs.length) = false from by simpa using hin, Bool.not_false, qg]
  exact h0 hin
end
section
variable {H : AH}
theorem own_str {B : Nat} {s : Sl} {l : List Int} {k : List UInt8 → Prop} (h : Own B H s 1 bU l) (h8 : qbR l) (hk : k (l.map fun v => UInt8.ofNat v.toNat)) : strC H s k := by
 have hm : (l.map fun v => UInt8.ofNat v.toNat).map byteV = l.flatMap bU := by
  clear hk h
  induction l with
  | nil => rfl
  | cons a l ih =>
   have ha := h8 a (by simp)
   have := ih (fun v hv => h8 v (by simp [hv]))
   simp only [qld, qkZ, bU, List.singleton_append] at this ⊢
   rw [this]
   congr 1
   simp only [byteV, UInt8.toNat_ofNat']
   congr 1
   omega
 refine ⟨_, ?_, hk⟩
 rw [hm]
 rcases h with ⟨rfl, rfl⟩ | ⟨b, rfl, _, _, hg⟩
 ·rfl
 ·simp only [AH.rowS?]
  by_cases h0 : l.length = 0
  ·rw [if_pos h0]
   have : l = [] := List.length_eq_zero_iff.1 h0
   subst this; rfl
  ·rw [if_neg h0]
   simp only [Nat.mul_one, AH.row?, hg, qkC, qkt, if_false, qlt, qkE]
   have hall : (l.flatMap bU).all qq = true := by simp [List.all_flatMap, bU, qq]
   have hlen : (l.flatMap bU).length = l.length := by rw [qc6 (z := 1) (fun _ => rfl)]; omega
   rw [if_neg (by simp), show l.length = (l.flatMap bU).length from hlen.symm, qlk, if_pos ⟨qks _, hall⟩]
end
theorem qe5 {α : Type} (g : α → Value) (l : List α) : (l.flatMap fun x => [g x]) = l.map g := by
 induction l with
 | nil => rfl
 | cons a l ih => simp [ih]
theorem qfi {α : Type} {H : AH} {s : Sl} {g : α → Value} {l : List α} (hg : ∀ x, qq (g x) = true) (h : qkO H s 1 (fun x => [g x]) l) : AH.rowS? H s 1 = some (l.map g) := by
 simp only [AH.rowS?]
 by_cases h0 : s.n = 0
 ·rw [if_pos h0]
  have : l = [] := List.length_eq_zero_iff.1 (by rw [← h.1]; exact h0)
  subst this; rfl
 ·rw [if_neg h0]
  have hpos : 0 < l.length := by rw [← h.1]; omega
  obtain ⟨b, o, ha, hb, hr0⟩ := h.at hpos
  rw [ha]
  simp only [Nat.mul_one]
  have hcell : ∀ i (hi : i < l.length), AH.cell? H ⟨b, o + i, none⟩ = some (g l[i]) := by
   intro i hi
   obtain ⟨b', o', ha', _, hr⟩ := qb0 h hi
   rw [ha] at ha'
   injection ha' with ha'
   injection ha' with e1 e2 _
   subst e1 e2
   rw [qk, Nat.mul_one] at hr
   exact hr
  have hm : (H.get b).md ≠ .dead := by
   intro hm
   have := hcell 0 hpos
   simp [AH.cell?, hm] at this
  have hc : ∀ i (hi : i < l.length), (H.get b).cells[o + i]? = some (g l[i]) := by
   intro i hi
   have := hcell i hi
   simpa [AH.cell?, hm] using this
  have hlen : o + s.n ≤ (H.get b).cells.length := by
   have h1 := hc (l.length - 1) (by omega)
   have := (List.getElem?_eq_some_iff.1 h1).1
   have := h.1
   omega
  have htake : ((H.get b).cells.drop o).take s.n = l.map g := by
   apply qkH
   intro i
   by_cases hi : i < s.n
   ·have hi' : i < l.length := by rw [← h.1]; exact hi
    rw [qk9, if_pos hi, qla, hc i hi', List.getElem?_map, qkj hi', Option.map_some]
   ·rw [qkp (by simp; omega), qkp (by rw [List.length_map, ← h.1]; omega)]
  simp only [AH.row?, qkC, qkt, if_false]
  rw [if_neg hm, htake, if_pos ⟨hlen, by simp [hg]⟩]
theorem qU.s {H : AH} {sl : Sl} {ws : List Int} {k : Sl → AH → Prop} (hw : qkO H sl 1 wU ws) (hwl : ws.length ≤ 1000000)
  (h : ∀ s H', qa H H' → Own H.size H' s 1 wU ws ∨ (ws = [] ∧ s.n = 0) → k s H') : qU sl H k := by
 refine qU.link ?_
 unfold qU.b
 cases ha : sl.a with
 | none =>
  rw [Option.isNone_none, qg]
  refine h _ _ (qa.refl H) (.inr ⟨?_, rfl⟩)
  cases ws with
  | nil => rfl
  | cons x r =>
   obtain ⟨a, h1, _⟩ := hw.2 0 x rfl
   rw [ha] at h1; cases h1
 | some a =>
  rw [Option.isNone_some, qc, qt]
  refine ⟨le_limS (by have := hw.1; simp only [lim]; omega) _, ?_⟩
  by_cases h0 : sl.n = 0
  ·rw [if_pos h0]
   refine h _ _ ((qa.refl H).push _) (.inr ⟨List.length_eq_zero_iff.1 (by rw [← hw.1]; exact h0), rfl⟩)
  ·rw [if_neg h0]
   have hr := qfi (g := fun v => qki .u64 v) (fun _ => rfl) (hw.keep ((qa.refl H).push ⟨[], .rw, 1⟩))
   refine ⟨_, hr, ⟨rfl, rfl, rfl, by simp [qp], by simp [qp], by simp [qp]⟩, ?_⟩
   refine h _ _ ((((qa.refl H).push _).kill (b := H.size) (qks _)).push _) (.inl (.inr ⟨H.size + 1, ?_, by omega, by simp [qj, qaR], ?_⟩))
   ·simp [newAt, qj, hw.1]
   ·simp only [qp, qaR, qj, if_true]
    simp only [List.nil_append, AObj.mk.injEq, and_true]
    exact (qe5 (fun v => qki .u64 v) ws).symm
def putE (ws : List Int) (x : Int × Int) : List Int := if 0 ≤ x.1 ∧ x.1 < ws.length then ws.set x.1.toNat x.2 else ws
def applyE (ws : List Int) (l : List (Int × Int)) : List Int := l.foldl putE ws
theorem qhY (ws : List Int) (x : Int × Int) : (putE ws x).length = ws.length := by unfold putE; split <;> simp
theorem qaj (l : List (Int × Int)) : ∀ ws, (applyE ws l).length = ws.length := by
 induction l with
 | nil => intro ws; rfl
 | cons x r ih => intro ws; simp only [applyE, List.foldl_cons]; exact (ih _).trans (qhY _ _)
theorem ed_put {H : AH} (x y : Int × Int) : AH.put (H.push ⟨eU x, .rw, 0⟩) ⟨H.size, 0, none⟩ (eU y) = H.push ⟨eU y, .rw, 0⟩ := put_new _ _ _ _ _
theorem ed_can {H : AH} (x : Int × Int) : AH.canPut (H.push ⟨eU x, .rw, 0⟩) ⟨H.size, 0, none⟩ 2 := qb5.2 (by simp [eU])
theorem ed_0 {H : AH} (x : Int × Int) : AH.cell? (H.push ⟨eU x, .rw, 0⟩) (qkm ⟨H.size, 0, none⟩ 0) = some (.int .i64 x.1) := qc7 _ _ _ _
theorem ed_1 {H : AH} (x : Int × Int) : AH.cell? (H.push ⟨eU x, .rw, 0⟩) (qkm ⟨H.size, 0, none⟩ 1) = some (.int .u64 x.2) := qc7 _ _ _ _
theorem ed_nil : ([(qki .i64 (0 : Int)), (qki .u64 (0 : Int))] : List Value) = eU (0, 0) := rfl
theorem qaA.s {H : AH} {x0 x1 : Sl} {ws : List Int} {l : List (Int × Int)} {k : Sl → AH → Prop} (hw : qkO H x0 1 wU ws) (hwl : ws.length ≤ 1000000) (hl : qkO H x1 2 eU l) (hll : l.length ≤ 1000000)
  (h : ∀ s H', qa H H' → Own H.size H' s 1 wU (applyE ws l) ∨ (ws = [] ∧ s.n = 0) → k s H') : qaA x0 x1 H k := by
 refine qaA.link ?_
 unfold qaA.b
 refine qU.s hw hwl ?_
 intro s9 H9 hK9 hO9
 refine qL (t := (0 : Int)) (H := H9) (I := fun (t : Int) H' => ∃ j : Nat, t = (j : Int) ∧ j ≤ l.length ∧ qa H H' ∧ (Own H.size H' s9 1 wU (applyE ws (l.take j)) ∨ (ws = [] ∧ s9.n = 0))) (m := fun (t : Int) _ => qku ((l.length : Int) - t)) ?_ ⟨0, rfl, by omega, hK9, hO9⟩
 intro t H1 hI it hit
 obtain ⟨j, rfl, hj, hK, hO⟩ := hI
 have hR := hl.keep hK
 unfold qaA.l2
 rw [hl.1]
 by_cases hlt : j < l.length
 ·rw [show decide ((j : Int) < (l.length : Int)) = true from by simpa using hlt, qg]
  obtain ⟨b, o, ha, hb, hrow⟩ := hR.at hlt
  refine ⟨⟨by omega, by omega⟩, ?_⟩
  rw [ha, qd, qko, qs hrow]
  generalize hx : l[j] = x at *
  have htk : applyE ws (l.take (j + 1)) = putE (applyE ws (l.take j)) x := by
   rw [List.take_succ, qkj hlt, hx, qlI]
   simp [applyE, List.foldl_append]
  have hn : s9.n = ws.length := by
   rcases hO with hO | ⟨rfl, h0⟩
   ·rw [own_n hO, qaj]
   ·rw [h0]; rfl
  simp only [qt, qbs, ed_nil, ed_put, ed_can, ed_0, ed_1, qh, show (eU x).length = 2 from rfl, show (eU x).all qq = true from rfl, true_and]
  have hnext : ∀ H', qa H H' → (Own H.size H' s9 1 wU (putE (applyE ws (l.take j)) x) ∨ (ws = [] ∧ s9.n = 0)) → it ((j : Int) + 1) H' := by
   intro H' hK' hO'
   rw [← htk] at hO'
   exact hit _ _ ⟨j + 1, by simp, by omega, hK', hO'⟩ (by omega)
  have hO1 : Own H.size (H1.push ⟨eU x, .rw, 0⟩) s9 1 wU (applyE ws (l.take j)) ∨ (ws = [] ∧ s9.n = 0) :=
   hO.imp (fun hO => hO.keep (by simp [qj]) (fun b _ hb => qF (by omega))) id
  unfold qaA.j1
  simp only [ed_0, ed_1, qh]
  rw [qf (n := (j : Int) + 1) (by omega) (by omega), hn]
  by_cases h0 : x.1 ≥ 0
  ·rw [show decide (x.1 ≥ 0) = true from by simpa using h0, qg]
   by_cases h1 : x.1 < (ws.length : Int)
   ·rw [show decide (x.1 < (ws.length : Int)) = true from by simpa using h1, qg]
    refine ⟨⟨h0, h1⟩, ?_⟩
    rcases hO1 with hO1 | ⟨rfl, _⟩
    ·have hlw : x.1.toNat < (applyE ws (l.take j)).length := by rw [qaj]; omega
     obtain ⟨b', ha', hb1, hb2, hcan, hO', _⟩ := hO1.put (y := x.2) (fun _ => rfl) (qkj hlw) (j := 0) (by omega) (v := .int .u64 x.2) rfl
     rw [ha', qd, qk, qkE]
     refine ⟨hcan, ?_⟩
     refine hnext _ ((hK.push _).put hb1 _) (.inl ?_)
     have hp : putE (applyE ws (l.take j)) x = (applyE ws (l.take j)).set x.1.toNat x.2 := by
      unfold putE; rw [if_pos ⟨h0, by rw [qaj]; exact h1⟩]
     rw [hp]; exact hO'
    ·simp at h1; omega
   ·rw [show decide (x.1 < (ws.length : Int)) = false from by simpa using h1, qc]
    refine hnext _ (hK.push _) (hO1.imp (fun hO => ?_) id)
    have hp : putE (applyE ws (l.take j)) x = applyE ws (l.take j) := by unfold putE; rw [if_neg (by rw [qaj]; omega)]
    rw [hp]; exact hO
  ·rw [show decide (x.1 ≥ 0) = false from by simpa using h0, qc, qc]
   refine hnext _ (hK.push _) (hO1.imp (fun hO => ?_) id)
   have hp : putE (applyE ws (l.take j)) x = applyE ws (l.take j) := by unfold putE; rw [if_neg (by omega)]
   rw [hp]; exact hO
 ·rw [show decide ((j : Int) < (l.length : Int)) = false from by simpa using hlt, qc]
  have : j = l.length := by omega
  subst this
  rw [qlk] at hO
  exact h _ _ hK hO
theorem qhF {ws : List Int} (h64 : qam ws) {i p : Nat} {c : Int} (hi : i / 8 < ws.length) (hp : p / 8 < ws.length) (hc : 0 ≤ c ∧ c ≤ 255) : byteAt (putB ws i c) p = if p = i then c else byteAt ws p := by
 unfold byteAt
 rw [qeE _ _ _ _ hi]
 by_cases hw : p / 8 = i / 8
 ·rw [if_pos hw]
  by_cases hpi : p = i
  ·subst hpi; rw [if_pos rfl, qf0 (by omega) hc]
  ·rw [if_neg hpi, ← hw]
   have hv : 0 ≤ ws.getD (p / 8) 0 ∧ ws.getD (p / 8) 0 ≤ 18446744073709551615 := by
    rw [qkk, qkj hp, qkU]
    exact h64 _ (qky hp)
   exact qfz hv (by omega) (by omega) (by omega) hc
 ·rw [if_neg hw, if_neg (by intro h; exact hw (by rw [h]))]
theorem qdi : ∀ (bs ws : List Int) (i : Nat), qam ws → qam (putBs ws i bs) := by
 intro bs
 induction bs with
 | nil => intro ws i h; exact h
 | cons c r ih => intro ws i h; exact ih _ _ (qeN h i c)
theorem qg2 : ∀ (bs ws : List Int) (i p : Nat), qam ws → qbR bs → i + bs.length ≤ ws.length * 8 → p / 8 < ws.length →
  byteAt (putBs ws i bs) p = if i ≤ p ∧ p < i + bs.length then bs.getD (p - i) 0 else byteAt ws p := by
 intro bs
 induction bs with
 | nil => intro ws i p _ _ _ _; rw [if_neg (by simp)]; rfl
 | cons c r ih =>
  intro ws i p h64 h8 hl hp
  simp only [qkA] at hl
  simp only [putBs]
  rw [ih _ _ _ (qeN h64 i c) (fun v hv => h8 v (by simp [hv])) (by rw [qc9]; omega) (by rw [qc9]; exact hp), qhF h64 (by omega) hp (h8 c (by simp))]
  simp only [qkA]
  by_cases h1 : i + 1 ≤ p ∧ p < i + 1 + r.length
  ·rw [if_pos h1, if_pos (by omega)]
   obtain ⟨d, hd⟩ : ∃ d, p - i = d + 1 := ⟨p - i - 1, by omega⟩
   rw [hd, List.getD_cons_succ]
   congr 1; omega
  ·rw [if_neg h1]
   by_cases h2 : p = i
   ·subst h2; rw [if_pos rfl, if_pos (by omega)]; simp
   ·rw [if_neg h2, if_neg (by omega)]
theorem qiT {a b : List Int} (hl : a.length = b.length) (h : ∀ w, w < a.length → a.getD w 0 = b.getD w 0) : a = b := by
 apply qkH
 intro w
 by_cases hw : w < a.length
 ·have := h w hw
  simp only [qkk, qkj hw, qkj (show w < b.length by omega), qkU] at this
  rw [qkj hw, qkj (show w < b.length by omega), this]
 ·rw [qkp (by omega), qkp (by omega)]
theorem qhs (cur : List Int) (q m : Nat) : editsOf cur q (m + 1) = editsOf cur q m ++ [(((q + m : Nat) : Int), cur.getD (q + m) 0)] := by
 simp only [editsOf, qlo, List.map_append, qld, List.map_nil]
theorem qhT {ws cur : List Int} {q : Nat} : ∀ (m w : Nat), q + m ≤ ws.length → (applyE ws (editsOf cur q m)).getD w 0 = if q ≤ w ∧ w < q + m then cur.getD w 0 else ws.getD w 0 := by
 intro m
 induction m with
 | zero => intro w _; rw [if_neg (by omega)]; rfl
 | succ m ih =>
  intro w hm
  rw [qhs]
  have : applyE ws (editsOf cur q m ++ [(((q + m : Nat) : Int), cur.getD (q + m) 0)]) = putE (applyE ws (editsOf cur q m)) (((q + m : Nat) : Int), cur.getD (q + m) 0) := by simp [applyE, List.foldl_append]
  rw [this]
  unfold putE
  rw [if_pos ⟨by simp only; omega, by simp only [qaj]; omega⟩]
  simp only [qko]
  by_cases hw : w = q + m
  ·subst hw
   rw [if_pos (by omega), qkk, qkY (by rw [qaj]; omega), qkU]
  ·have h2 : ((applyE ws (editsOf cur q m)).set (q + m) (cur.getD (q + m) 0)).getD w 0 = (applyE ws (editsOf cur q m)).getD w 0 := by
    simp only [qkk]
    rw [qkK (by omega)]
   rw [h2, ih w (by omega)]
   by_cases h3 : q ≤ w ∧ w < q + m
   ·rw [if_pos h3, if_pos (by omega)]
   ·rw [if_neg h3, if_neg (by omega)]
theorem qhB {ws bs : List Int} {off : Nat} (hl : off + bs.length ≤ ws.length * 8) : applyE ws (editsOf (putBs ws off bs) (off / 8) (touched off bs.length)) = putBs ws off bs := by
 have hm : off / 8 + touched off bs.length ≤ ws.length ∨ bs = [] := by
  cases bs with
  | nil => exact .inr rfl
  | cons c r => left; simp only [qkA, touched] at hl ⊢; rw [if_neg (by omega)]; omega
 rcases hm with hm | rfl
 ·refine qiT (by rw [qaj, qca]) fun w _ => ?_
  rw [qhT _ _ hm]
  split
  ·rfl
  ·rename_i hw
   by_cases h0 : bs.length = 0
   ·have : bs = [] := List.length_eq_zero_iff.1 h0
    subst this; rfl
   ·have : touched off bs.length = (off + bs.length - 1) / 8 - off / 8 + 1 := by simp [touched, h0]
    exact (qeF _ _ _ _ (by omega) hl).symm
 ·rfl
abbrev Bk : Type := Int × Int × Bool
def bkV (b : Bk) : List Value := [.int .i64 b.1, .int .i64 b.2.1, .bool b.2.2]
theorem bkV_len (b : Bk) : (bkV b).length = 3 := rfl
theorem bkV_ok (b : Bk) : (bkV b).all qq = true := rfl
def needN (n : Int) : Int := if 1 ≤ n ∧ n ≤ 448 then 1 + (n + 7) / 8 else 0
def takesN (size need : Int) : Int := if 2 ≤ need ∧ need ≤ size then (if size - need < 2 then size else need) else 0
def mayS (n : Int) : Prop := 2 ≤ n ∧ n ≤ 512
instance (n : Int) : Decidable (mayS n) := by unfold mayS; infer_instance
def wordN (n : Int) (u : Bool) : Int := if mayS n then 2 * n + (if u then 1 else 0) else 0
def offN (pt : Int) : Int := if 0 ≤ pt ∧ pt ≤ 512 then (pt + 1) * 8 else 0
def mayW (n : Int) : Prop := 8 ≤ n ∧ n ≤ 512 ∧ n % 8 = 0
instance (n : Int) : Decidable (mayW n) := by unfold mayW; infer_instance
theorem shr1 {v : Int} (h : 0 ≤ v) : shrI .u64 v 1 = v / 2 := by
 unfold shrI
 rw [Int.fdiv_eq_ediv_of_nonneg _ (by decide)]
 rfl
theorem and1w {v : Int} (h : isU v) : andI .u64 v 1 = v % 2 := by
 unfold isU at h
 obtain ⟨n, rfl⟩ := qkF h.1
 have hn : n < 2 ^ 64 := by omega
 unfold andI
 have e : (qk5 (qli .u64) (n : Int) &&& qk5 (qli .u64) 1).toNat = n % 2 := by
  rw [BitVec.toNat_and]
  have e1 : (qk5 (qli .u64) (n : Int)).toNat = n := by
   show (qk5 64 (n : Int)).toNat = n
   rw [BitVec.toNat_ofInt]
   omega
  have e2 : (qk5 (qli .u64) 1).toNat = 1 := rfl
  rw [e1, e2, Nat.and_one_is_mod]
 rw [e, qbe (by omega) (by omega)]
 omega
theorem shl1 {n : Int} (h : mayS n) : shlI .u64 (qkl .u64 n) 1 = 2 * n := by
 unfold mayS at h
 unfold shlI
 rw [qbe (n := n) (by omega) (by omega)]
 have : (2 : Int) ^ (min (qku 1) (qli .u64)) = 2 := rfl
 rw [this, qbe (by omega) (by omega)]; omega
theorem or1 {n : Int} (h : mayS n) : orI .u64 (2 * n) 1 = 2 * n + 1 := by
 unfold mayS at h
 obtain ⟨m, rfl⟩ := qkF (show 0 ≤ n by omega)
 have hm : m < 513 := by omega
 have key : ∀ m : Fin 513, orI .u64 (2 * ((m.val : Nat) : Int)) 1 = 2 * ((m.val : Nat) : Int) + 1 := by decide +kernel
 exact key ⟨m, hm⟩
section
variable {H : AH}
def BkAt (H : AH) (o : Nat) (b : Bk) : Prop := ∃ e, H.get o = ⟨bkV b, .rw, e⟩
theorem BkAt.c0 {o : Nat} {b : Bk} (h : BkAt H o b) : AH.cell? H (qkm ⟨o, 0, none⟩ 0) = some (.int .i64 b.1) := by obtain ⟨e, h⟩ := h; simp [qk, AH.cell?, h, bkV]
theorem BkAt.c1 {o : Nat} {b : Bk} (h : BkAt H o b) : AH.cell? H (qkm ⟨o, 0, none⟩ 1) = some (.int .i64 b.2.1) := by obtain ⟨e, h⟩ := h; simp [qk, AH.cell?, h, bkV]
theorem BkAt.c2 {o : Nat} {b : Bk} (h : BkAt H o b) : AH.cell? H (qkm ⟨o, 0, none⟩ 2) = some (.bool b.2.2) := by obtain ⟨e, h⟩ := h; simp [qk, AH.cell?, h, bkV]
theorem BkAt.row {o : Nat} {b : Bk} (h : BkAt H o b) : AH.row? H ⟨o, 0, none⟩ 3 = some (bkV b) := by
 obtain ⟨e, h⟩ := h
 simp only [AH.row?, h, qkC, qkt, if_false, qlt]
 rw [if_neg (by simp), qle (by rw [bkV_len]; omega), if_pos ⟨by rw [bkV_len]; omega, bkV_ok _⟩]
theorem BkAt.keep {H' : AH} {o : Nat} {b : Bk} (h : BkAt H o b) (hg : H'.get o = H.get o) : BkAt H' o b := by obtain ⟨e, h⟩ := h; exact ⟨e, hg.trans h⟩
theorem BkAt.new {b : Bk} {e : Nat} : BkAt (H.push ⟨bkV b, .rw, e⟩) H.size b := ⟨e, by rw [qp, if_pos rfl]⟩
theorem qbD {α : Type} {s : Sl} {z : Nat} {f : α → List Value} {l : List α} (h : qkO H s z f l) (hp : 0 < l.length) :
  ∃ b o, s.a = some ⟨b, o, none⟩ ∧ b < H.size ∧ ∀ i x, l[i]? = some x → AH.row? H (qkm ⟨b, o, none⟩ (i * z)) z = some (f x) ∧ ∀ j v, (f x)[j]? = some v → AH.cell? H (qkm (qkm ⟨b, o, none⟩ (i * z)) j) = some v := by
 obtain ⟨b, o, h1, h2, _⟩ := h.at hp
 refine ⟨b, o, h1, h2, fun i x hx => ?_⟩
 obtain ⟨a, e1, e2, e3, e4⟩ := h.2 i x hx
 rw [h1] at e1
 injection e1 with e1
 subst e1
 rw [qk]
 refine ⟨e4, fun j v hv => ?_⟩
 rw [qk]
 exact (AH.row?_cell e4).2.2.2.2 j v hv
theorem qb9 {cs vs : List Value} {e n : Nat} {K : Nat → AH → Prop} (hc : cs.length = n) (hv : vs.length = n) (ho : vs.all qq = true)
  (hK : K H.size (H.push ⟨vs, .rw, e⟩)) : newC H ⟨cs, .rw, e⟩ fun o H1 => (vs.length = n ∧ vs.all qq = true) ∧ stC H1 ⟨o, 0, none⟩ vs fun Hs => K o Hs := by
 rw [qt]
 refine ⟨⟨hv, ho⟩, ?_⟩
 rw [qbs]
 have e1 : AH.put (H.push ⟨cs, .rw, e⟩) ⟨H.size, 0, none⟩ vs = H.push ⟨vs, .rw, e⟩ := by
  rw [put_new]
  congr 2
  apply qkH
  intro t
  rw [qbz _ _ _ _ (by omega)]
  by_cases ht : t < vs.length
  ·rw [if_pos (by omega)]; rfl
  ·rw [if_neg (by omega), qkp (by omega), qkp (by omega)]
 rw [e1]
 exact ⟨qb5.2 (by omega), hK⟩
end
def chainB (words : Int) : Int → Bool → List Bk → Prop
 | pt, _, [] => pt = words
 | pt, pu, b :: r => b.1 = pt ∧ mayS b.2.1 ∧ b.2.1 ≤ words - pt ∧ (pu = true ∨ b.2.2 = true) ∧ chainB words (pt + b.2.1) b.2.2 r
instance chainB.dec {words : Int} : ∀ (l : List Bk) (pt : Int) (pu : Bool), Decidable (chainB words pt pu l)
 | [], pt, pu => by unfold chainB; infer_instance
 | b :: r, pt, pu => by
  unfold chainB
  have := chainB.dec (words := words) r (pt + b.2.1) b.2.2
  infer_instance
def MayB (l : List Bk) (words : Int) : Prop := mayW words ∧ chainB words 0 true l
instance {l : List Bk} {words : Int} : Decidable (MayB l words) := by unfold MayB; infer_instance
def puAt (l : List Bk) : Nat → Bool
 | 0 => true
 | i + 1 => (l.getD i (0, 0, false)).2.2
theorem qeo {α : Type} {l : List α} {i : Nat} (hi : i < l.length) : l.drop i = l[i] :: l.drop (i + 1) := by
 rw [List.drop_eq_getElem_cons hi]
section
variable {H : AH}
def blkFrom (ws : List Int) (pt : Nat) : Option (List Bk) :=
 if h : pt < ws.length then
  if h2 : mayS (ws.getD pt 0 / 2) then (blkFrom ws (pt + (ws.getD pt 0 / 2).toNat)).map (((pt : Int), ws.getD pt 0 / 2, (ws.getD pt 0 % 2 == 1)) :: ·) else none
 else some []
termination_by ws.length - pt
decreasing_by unfold mayS at h2; omega
theorem qcZ (ws : List Int) (pt : Nat) : blkFrom ws pt = if h : pt < ws.length then
  if h2 : mayS (ws.getD pt 0 / 2) then (blkFrom ws (pt + (ws.getD pt 0 / 2).toNat)).map (((pt : Int), ws.getD pt 0 / 2, (ws.getD pt 0 % 2 == 1)) :: ·) else none
 else some [] := by rw [blkFrom]
def blocksN (ws : List Int) : Option (List Bk) := (blkFrom ws 0).bind fun l => if MayB l ws.length then some l else none
theorem qa2 {ws : List Int} {l : List Bk} (h : blocksN ws = some l) : MayB l ws.length := by
 unfold blocksN at h
 rw [Option.bind_eq_some_iff] at h
 obtain ⟨l', _, h2⟩ := h
 split at h2
 ·injection h2 with h2; subst h2; assumption
 ·cases h2
theorem chainB.le {words : Int} : ∀ {l : List Bk} {pt : Int} {pu : Bool}, chainB words pt pu l → pt + 2 * l.length ≤ words := by
 intro l
 induction l with
 | nil => intro pt pu h; simp only [chainB] at h; simp; omega
 | cons b r ih =>
  intro pt pu h
  have := ih h.2.2.2.2
  have := h.2.1
  unfold mayS at this
  simp only [qkA]; omega
theorem chainB.mem {words : Int} : ∀ {l : List Bk} {pt : Int} {pu : Bool}, chainB words pt pu l → ∀ b ∈ l, pt ≤ b.1 ∧ b.1 + b.2.1 ≤ words ∧ mayS b.2.1 := by
 intro l
 induction l with
 | nil => intro pt pu h b hb; cases hb
 | cons a r ih =>
  intro pt pu h b hb
  have hs := h.2.1
  unfold mayS at hs
  rw [qkD] at hb
  rcases hb with rfl | hb
  ·have := h.2.2.1; have := h.1; exact ⟨by omega, by omega, h.2.1⟩
  ·have := ih h.2.2.2.2 b hb; exact ⟨by omega, this.2⟩
theorem MayB.len {l : List Bk} {words : Int} (h : MayB l words) : 2 * (l.length : Int) ≤ words ∧ words ≤ 512 := by
 have := h.2.le; have := h.1.2.1; omega
theorem MayB.mem {l : List Bk} {words : Int} (h : MayB l words) {b : Bk} (hb : b ∈ l) : 0 ≤ b.1 ∧ b.1 + b.2.1 ≤ words ∧ 2 ≤ b.2.1 ∧ b.2.1 ≤ 512 := by
 have := h.2.mem b hb; have h2 := this.2.2; unfold mayS at h2; omega
end
def nV (i : Nat) : List Value := [.int .i64 (i : Int)]
def bkAt (l : List Bk) (i : Nat) : Bk := l.getD i (0, 0, false)
def fitStep (l : List Bk) (need : Int) (out : List Nat) (i : Nat) : List Nat :=
 if (bkAt l i).2.2 = true ∨ (bkAt l i).2.1 < need then out else
 let out1 := if 0 < out.length ∧ (bkAt l (out.getD 0 0)).2.1 > (bkAt l i).2.1 then [] else out
 if out1.length = 0 ∨ (bkAt l (out1.getD 0 0)).2.1 = (bkAt l i).2.1 then out1 ++ [i] else out1
def fitsTo (l : List Bk) (need : Int) (j : Nat) : List Nat := (qk3 j).foldl (fitStep l need) []
def fitsL (l : List Bk) (need : Int) : List Nat := if need < 2 then [] else fitsTo l need l.length
theorem qdO (l : List Bk) (need : Int) (j : Nat) : fitsTo l need (j + 1) = fitStep l need (fitsTo l need j) j := by
 unfold fitsTo; rw [qlo, List.foldl_append]; rfl
theorem qhP {l : List Bk} {need : Int} {out : List Nat} {i j : Nat} (h : j ∈ fitStep l need out i) : j ∈ out ∨ (j = i ∧ (bkAt l i).2.2 = false ∧ need ≤ (bkAt l i).2.1) := by
 unfold fitStep at h
 split at h
 ·exact .inl h
 ·rename_i h1
  simp only at h
  have h3 : (bkAt l i).2.2 = false ∧ need ≤ (bkAt l i).2.1 := by
   constructor
   ·cases hh : (bkAt l i).2.2
    ·rfl
    ·exact absurd (.inl hh) h1
   ·exact Int.not_lt.1 fun hh => h1 (.inr hh)
  have hsub : ∀ x, x ∈ (if 0 < out.length ∧ (bkAt l (out.getD 0 0)).2.1 > (bkAt l i).2.1 then [] else out) → x ∈ out := by
   intro x hx
   split at hx
   ·cases hx
   ·exact hx
  generalize (if 0 < out.length ∧ (bkAt l (out.getD 0 0)).2.1 > (bkAt l i).2.1 then [] else out) = o1 at h hsub
  split at h
  ·rw [List.mem_append] at h
   rcases h with h | h
   ·exact .inl (hsub _ h)
   ·simp at h; exact .inr ⟨h, h3⟩
  ·exact .inl (hsub _ h)
theorem qdp {l : List Bk} {need : Int} : ∀ {j i : Nat}, i ∈ fitsTo l need j → i < j ∧ (bkAt l i).2.2 = false ∧ need ≤ (bkAt l i).2.1 := by
 intro j
 induction j with
 | zero => intro i h; cases h
 | succ j ih =>
  intro i h
  rw [qdO] at h
  rcases qhP h with h | ⟨rfl, h⟩
  ·have := ih h; exact ⟨by omega, this.2⟩
  ·exact ⟨by omega, h⟩
theorem qfM {l : List Bk} {need : Int} : ∀ {j : Nat}, (fitsTo l need j).length ≤ j := by
 intro j
 induction j with
 | zero => exact qks _
 | succ j ih =>
  rw [qdO]
  unfold fitStep
  split
  ·omega
  ·simp only
   have hx : (if 0 < (fitsTo l need j).length ∧ (bkAt l ((fitsTo l need j).getD 0 0)).2.1 > (bkAt l j).2.1 then [] else fitsTo l need j).length ≤ j := by
    split
    ·exact Nat.zero_le _
    ·exact ih
   generalize (if 0 < (fitsTo l need j).length ∧ (bkAt l ((fitsTo l need j).getD 0 0)).2.1 > (bkAt l j).2.1 then [] else fitsTo l need j) = o1 at *
   split
   ·rw [List.length_append]; simp only [qkA, List.length_nil]; omega
   ·omega
theorem qaH {l : List Bk} {i : Nat} (hi : i < l.length) : l[i]? = some (bkAt l i) := by
 unfold bkAt; rw [qkk, qkj hi]; rfl
def countN (pt : Int) (cs : List Int) : Int := if pt < 0 ∨ (cs.length : Int) ≤ pt / 32 then 0 else cs.getD (pt / 32).toNat 0
def chStep (l : List Bk) (cs : List Int) (best : Int) (i : Nat) : Int :=
 if best < 0 ∨ countN (bkAt l i).1 cs < countN (bkAt l best.toNat).1 cs ∨ (countN (bkAt l i).1 cs = countN (bkAt l best.toNat).1 cs ∧ (bkAt l i).1 < (bkAt l best.toNat).1) then (i : Int) else best
def chooseN (l : List Bk) (need : Int) (cs : List Int) : Int := (fitsL l need).foldl (chStep l cs) (-1)
theorem qd2 {l : List Bk} {cs : List Int} : ∀ {f : List Nat} {b : Int}, f.foldl (chStep l cs) b = b ∨ ∃ i ∈ f, f.foldl (chStep l cs) b = (i : Int) := by
 intro f
 induction f with
 | nil => intro b; exact .inl rfl
 | cons a r ih =>
  intro b
  simp only [List.foldl_cons]
  rcases ih (b := chStep l cs b a) with h | ⟨i, hi, h⟩
  ·rw [h]
   unfold chStep
   split
   ·exact .inr ⟨a, by simp, rfl⟩
   ·exact .inl rfl
  ·exact .inr ⟨i, by simp [hi], h⟩
theorem qdN {l : List Bk} {need : Int} {cs : List Int} : chooseN l need cs = -1 ∨ ∃ i : Nat, chooseN l need cs = (i : Int) ∧ i < l.length ∧ (bkAt l i).2.2 = false ∧ need ≤ (bkAt l i).2.1 ∧ 2 ≤ need := by
 unfold chooseN
 rcases qd2 (l := l) (cs := cs) (f := fitsL l need) (b := -1) with h | ⟨i, hi, h⟩
 ·exact .inl h
 ·unfold fitsL at hi
  split at hi
  ·cases hi
  ·obtain ⟨h1, h2, h3⟩ := qdp hi
   exact .inr ⟨i, h, h1, h2, h3, by omega⟩
def isN (off : Int) : List Bk → Nat → Int
 | [], _ => -1
 | b :: r, i => if b.2.2 = true ∧ offN b.1 = off then (i : Int) else isN off r (i + 1)
theorem qdd (off : Int) : ∀ (l : List Bk) (i : Nat), isN off l i = -1 ∨ ∃ j : Nat, isN off l i = ((i + j : Nat) : Int) ∧ j < l.length ∧ (bkAt l j).2.2 = true ∧ offN (bkAt l j).1 = off := by
 intro l
 induction l with
 | nil => intro i; exact .inl rfl
 | cons b r ih =>
  intro i
  unfold isN
  split
  ·rename_i h; exact .inr ⟨0, rfl, by simp, h.1, h.2⟩
  ·rcases ih (i + 1) with h | ⟨j, h1, h2, h3⟩
   ·exact .inl h
   ·exact .inr ⟨j + 1, by rw [h1]; congr 1; omega, by simpa using h2, h3⟩
def inB (off n : Int) (b : Bk) : Prop := b.2.2 = true ∧ offN b.1 ≤ off ∧ off ≤ (b.1 + b.2.1) * 8 ∧ n ≤ (b.1 + b.2.1) * 8 - off
def withinN (l : List Bk) (off n : Int) : Prop := 0 ≤ n ∧ n ≤ 448 ∧ ∃ b ∈ l, inB off n b
def carveTo (pt tk : Int) (j : Nat) : List (Int × Int) := (pt, wordN tk true) :: (qk3 (j - 1)).map fun (t : Nat) => (pt + ((t : Int) + 1), (0 : Int))
def carveE (b : Bk) (need : Int) : List (Int × Int) :=
 carveTo b.1 (takesN b.2.1 need) (takesN b.2.1 need).toNat ++ (if takesN b.2.1 need < b.2.1 then [(b.1 + takesN b.2.1 need, wordN (b.2.1 - takesN b.2.1 need) false)] else [])
theorem qeI (pt tk : Int) {j : Nat} (hj : 1 ≤ j) : carveTo pt tk (j + 1) = carveTo pt tk j ++ [(pt + (j : Int), 0)] := by
 unfold carveTo
 obtain ⟨i, rfl⟩ : ∃ i, j = i + 1 := ⟨j - 1, by omega⟩
 simp only [Nat.add_sub_cancel, qlo, List.map_append, qld, List.map_nil, qkV]
 congr 2
theorem eU_len (x : Int × Int) : (eU x).length = 2 := rfl
theorem eU_ok (x : Int × Int) : (eU x).all qq = true := rfl
def mFrom (l : List Bk) (i : Nat) : Nat := if 0 < i ∧ (bkAt l (i - 1)).2.2 = false then i - 1 else i
def mTo (l : List Bk) (i : Nat) : Nat := if i + 1 < l.length ∧ (bkAt l (i + 1)).2.2 = false then i + 2 else i + 1
def sumTo (l : List Bk) (a : Nat) : Nat → Int
 | 0 => 0
 | j + 1 => sumTo l a j + (bkAt l (a + j)).2.1
theorem qcl {α : Type} {B B' : Nat} {H : AH} {s : Sl} {z : Nat} {f : α → List Value} {l : List α} (h : Own B H s z f l) (hb : B' ≤ B) : Own B' H s z f l :=
 h.imp id fun ⟨b, e, h1, h2, h3⟩ => ⟨b, e, Nat.le_trans hb h1, h2, h3⟩
theorem qiV {α : Type} {H : AH} {z : Nat} {f : α → List Value} : qkO H ⟨none, 0, 0⟩ z f [] := ⟨rfl, fun i x h => by simp at h⟩
instance {off n : Int} {b : Bk} : Decidable (inB off n b) := by unfold inB; infer_instance
instance {l : List Bk} {off n : Int} : Decidable (withinN l off n) := by unfold withinN; infer_instance
def imgAlloc (ws : List Int) (n : Int) (cs : List Int) : List (Int × Int) × Int × Int :=
 if needN n = 0 then ([], 0, 1) else
 match blocksN ws with
 | none => ([], 0, 6)
 | some l => if chooseN l (needN n) cs < 0 then ([], 0, 4) else (carveE (bkAt l (chooseN l (needN n) cs).toNat) (needN n), offN (bkAt l (chooseN l (needN n) cs).toNat).1, 0)
def imgFree (ws : List Int) (off : Int) : List (Int × Int) × Int :=
 match blocksN ws with
 | none => ([], 6)
 | some l => if isN off l 0 < 0 then ([], 1) else
  ([((bkAt l (mFrom l (isN off l 0).toNat)).1, wordN (sumTo l (mFrom l (isN off l 0).toNat) (mTo l (isN off l 0).toNat - mFrom l (isN off l 0).toNat)) false)], 0)
def imgWrite (ws : List Int) (off : Int) (bs : List Int) : List (Int × Int) × Int :=
 match blocksN ws with
 | none => ([], 6)
 | some l => if withinN l off bs.length then (editsOf (putBs ws off.toNat bs) (off.toNat / 8) (touched off.toNat bs.length), 0) else ([], 1)
theorem qcs {ws : List Int} {l : List Bk} {off n : Int} (hB : MayB l ws.length) (h : withinN l off n) : inside ws.length off n := by
 obtain ⟨h1, h2, b, hb, hi⟩ := h
 have hm := hB.mem hb
 have hl := hB.len
 obtain ⟨_, h3, h4, h5⟩ := hi
 have : offN b.1 = (b.1 + 1) * 8 := by unfold offN; rw [if_pos (by omega)]
 unfold inside
 omega
section
variable {H : AH}
def firstN (n : Int) : List Int := if mayW n then wordN n false :: List.replicate (n.toNat - 1) 0 else []
theorem wordN_u (n : Int) (u : Bool) : isU (wordN n u) := by
 unfold wordN isU
 split
 ·rename_i h; unfold mayS at h; split <;> omega
 ·omega
theorem qdy (n : Int) : qam (firstN n) := by
 intro v hv
 unfold firstN at hv
 split at hv
 ·rw [qkD] at hv
  rcases hv with rfl | hv
  ·exact wordN_u _ _
  ·rw [List.eq_of_mem_replicate hv]; omega
 ·cases hv
end
def insS (n : Int) : List Int → List Int
 | [] => [n]
 | a :: r => if a < n then a :: insS n r else if a = n then a :: r else n :: a :: r
def posN (n : Int) : List Int → Nat
 | [] => 0
 | a :: r => if a < n then posN n r + 1 else 0
def eStep (out : List Int) (e : Int × Int) : List Int := if e.1 < 0 then out else insS (e.1 / 8) out
def eLines (l : List (Int × Int)) : List Int := l.foldl eStep []
theorem posN_le (n : Int) : ∀ l : List Int, posN n l ≤ l.length := by
 intro l
 induction l with
 | nil => exact qks _
 | cons a r ih => simp only [posN, qkA]; split <;> omega
theorem insS_eq (n : Int) : ∀ out : List Int, insS n out = if posN n out = out.length ∨ out.getD (posN n out) 0 ≠ n then out.take (posN n out) ++ [n] ++ out.drop (posN n out) else out := by
 intro out
 induction out with
 | nil => simp [insS, posN]
 | cons a r ih =>
  by_cases h1 : a < n
  ·have e : posN n (a :: r) = posN n r + 1 := by simp only [posN]; rw [if_pos h1]
   have e2 : insS n (a :: r) = a :: insS n r := by simp only [insS]; rw [if_pos h1]
   simp only [e, e2, ih, qkA, List.getD_cons_succ, List.take_succ_cons, List.drop_succ_cons, Nat.add_right_cancel_iff]
   split <;> rfl
  ·have e : posN n (a :: r) = 0 := by simp only [posN]; rw [if_neg h1]
   have e2 : insS n (a :: r) = if a = n then a :: r else n :: a :: r := by simp only [insS]; rw [if_neg h1]
   simp only [e, e2]
   by_cases h2 : a = n
   ·subst h2; rw [if_pos rfl, if_neg (by simp)]
   ·rw [if_neg h2, if_pos (.inr (by simpa using h2))]; rfl
theorem qfj (n : Int) : ∀ out : List Int, ∀ x, x ∈ insS n out ↔ x = n ∨ x ∈ out := by
 intro out
 induction out with
 | nil => intro x; simp [insS]
 | cons a r ih =>
  intro x
  simp only [insS]
  split
  ·rw [qkD, ih, qkD]
   constructor
   ·rintro (h | h | h)
    ·exact .inr (.inl h)
    ·exact .inl h
    ·exact .inr (.inr h)
   ·rintro (h | h | h)
    ·exact .inr (.inl h)
    ·exact .inl h
    ·exact .inr (.inr h)
  ·split
   ·rename_i h2; subst h2; simp
   ·simp
theorem qh0 (n : Int) : ∀ out : List Int, out.Pairwise (· < ·) → (insS n out).Pairwise (· < ·) := by
 intro out
 induction out with
 | nil => intro _; simp [insS]
 | cons a r ih =>
  intro h
  rw [List.pairwise_cons] at h
  simp only [insS]
  split
  ·rename_i h1
   rw [List.pairwise_cons]
   refine ⟨fun x hx => ?_, ih h.2⟩
   rw [qfj] at hx
   rcases hx with rfl | hx
   ·exact h1
   ·exact h.1 x hx
  ·rename_i h1
   split
   ·rw [List.pairwise_cons]; exact h
   ·rename_i h2
    rw [List.pairwise_cons, List.pairwise_cons]
    refine ⟨fun x hx => ?_, h⟩
    rw [qkD] at hx
    rcases hx with rfl | hx
    ·omega
    ·have := h.1 x hx; omega
theorem qjO (n : Int) (out : List Int) : (insS n out).length ≤ out.length + 1 := by
 rw [insS_eq]
 have := posN_le n out
 split
 ·simp; omega
 ·omega
theorem eFold (l : List (Int × Int)) : ∀ out : List Int, out.Pairwise (· < ·) → (l.foldl eStep out).Pairwise (· < ·) ∧ (∀ x, x ∈ l.foldl eStep out → x ∈ out ∨ ∃ e ∈ l, 0 ≤ e.1 ∧ x = e.1 / 8) ∧ (l.foldl eStep out).length ≤ out.length + l.length := by
 induction l with
 | nil => intro out h; exact ⟨h, fun x hx => .inl hx, by simp⟩
 | cons e r ih =>
  intro out h
  simp only [List.foldl_cons]
  have hs : (eStep out e).Pairwise (· < ·) := by
   unfold eStep; split
   ·exact h
   ·exact qh0 _ _ h
  obtain ⟨h1, h2, h3⟩ := ih _ hs
  refine ⟨h1, fun x hx => ?_, ?_⟩
  ·rcases h2 x hx with h | ⟨e', he', h⟩
   ·unfold eStep at h
    split at h
    ·exact .inl h
    ·rename_i hn
     rw [qfj] at h
     rcases h with h | h
     ·exact .inr ⟨e, by simp, by omega, h⟩
     ·exact .inl h
   ·exact .inr ⟨e', by simp [he'], h⟩
  ·have : (eStep out e).length ≤ out.length + 1 := by
    unfold eStep; split
    ·omega
    ·exact qjO _ _
   simp only [qkA]; omega
theorem qig {hi : Int} : ∀ {l : List Int} {lo : Int}, l.Pairwise (· < ·) → (∀ x ∈ l, lo ≤ x ∧ x ≤ hi) → lo ≤ hi + 1 → (l.length : Int) ≤ hi - lo + 1 := by
 intro l
 induction l with
 | nil => intro lo _ _ h; simp; omega
 | cons a r ih =>
  intro lo hs hb h
  rw [List.pairwise_cons] at hs
  have ha := hb a (by simp)
  have := ih (lo := a + 1) hs.2 (fun x hx => ⟨by have := hs.1 x hx; omega, (hb x (by simp [hx])).2⟩) (by omega)
  simp only [qkA]; omega
theorem qdm {l : List (Int × Int)} {lo hi : Int} (h : ∀ e ∈ l, lo ≤ e.1 ∧ e.1 ≤ hi) (hlh : lo ≤ hi) : ((eLines l).length : Int) ≤ hi / 8 - lo / 8 + 1 := by
 obtain ⟨h1, h2, _⟩ := eFold l [] List.Pairwise.nil
 refine qig h1 (fun x hx => ?_) (by omega)
 rcases h2 x hx with hx | ⟨e, he, _, rfl⟩
 ·cases hx
 ·have := h e he; omega
theorem qfH {b : Bk} {need : Int} (hn : 2 ≤ need ∧ need ≤ b.2.1) : (∀ e ∈ carveE b need, b.1 ≤ e.1 ∧ e.1 ≤ b.1 + need ∧ isU e.2) ∧ ((carveE b need).length : Int) ≤ need + 3 := by
 have htk : takesN b.2.1 need = (if b.2.1 - need < 2 then b.2.1 else need) := by unfold takesN; rw [if_pos hn]
 have ht : 2 ≤ takesN b.2.1 need ∧ takesN b.2.1 need ≤ need + 1 ∧ (takesN b.2.1 need < b.2.1 → takesN b.2.1 need = need) := by
  rw [htk]; split <;> omega
 unfold carveE carveTo
 generalize takesN b.2.1 need = tk at *
 refine ⟨fun e he => ?_, ?_⟩
 ·rw [qkV, qkD, List.mem_append] at he
  rcases he with rfl | he | he
  ·exact ⟨by simp only; omega, by simp only; omega, wordN_u _ _⟩
  ·rw [List.mem_map] at he
   obtain ⟨t, ht1, rfl⟩ := he
   rw [List.mem_range] at ht1
   refine ⟨by simp only; omega, by simp only; omega, by unfold isU; omega⟩
  ·split at he
   ·rename_i hlt
    have := ht.2.2 hlt
    simp at he
    subst he
    exact ⟨by simp only; omega, by simp only; omega, wordN_u _ _⟩
   ·cases he
 ·split <;> simp <;> omega
structure EdOK (E : List (Int × Int)) (most : Int) : Prop where
 mem : ∀ e ∈ E, 0 ≤ e.1 ∧ e.1 ≤ 5000 ∧ isU e.2
 len : E.length ≤ 5000
 most : ((eLines E).length : Int) ≤ most
theorem EdOK.nil {m : Int} (h : 0 ≤ m) : EdOK [] m := ⟨fun e he => (by cases he), (by simp), (by simpa [eLines] using h)⟩
theorem qe4 {ws : List Int} {n : Int} {cs : List Int} : EdOK (imgAlloc ws n cs).1 (linesP 1 n 0) := by
 have h0 : 0 ≤ linesP 1 n 0 := qer (sl := ⟨none, 0, 0⟩).1
 unfold imgAlloc
 split
 ·exact EdOK.nil h0
 ·rename_i hn0
  split
  ·exact EdOK.nil h0
  ·rename_i l hb
   have hB := qa2 hb
   have hlen := hB.len
   split
   ·exact EdOK.nil h0
   ·rename_i hc
    rcases qdN (l := l) (need := needN n) (cs := cs) with h | ⟨i, h, hi, hu, hn1, hn2⟩
    ·omega
    ·rw [h, qko]
     have hm := hB.mem (qkv (qaH hi))
     generalize bkAt l i = b at *
     obtain ⟨h1, h2⟩ := qfH ⟨hn2, hn1⟩
     have hneed : 1 ≤ n ∧ n ≤ 448 ∧ needN n = 1 + (n + 7) / 8 := by
      unfold needN at hn0 ⊢
      split at hn0
      ·rename_i hh; rw [if_pos hh]; exact ⟨hh.1, hh.2, rfl⟩
      ·exact absurd rfl hn0
     show EdOK (carveE b (needN n)) (linesP 1 n 0)
     refine ⟨fun e he => ?_, by omega, ?_⟩
     ·have := h1 e he; exact ⟨by omega, by omega, this.2.2⟩
     ·have := qdm (lo := b.1) (hi := b.1 + needN n) (fun e he => ⟨(h1 e he).1, (h1 e he).2.1⟩) (by omega)
      unfold linesP
      rw [if_pos rfl, if_pos ⟨by omega, by omega⟩]
      omega
theorem qii {ws : List Int} {off : Int} : EdOK (imgFree ws off).1 (linesP 2 0 0) := by
 unfold imgFree
 split
 ·exact EdOK.nil (by decide)
 ·rename_i l hb
  have hB := qa2 hb
  have hlen := hB.len
  split
  ·exact EdOK.nil (by decide)
  ·rename_i hc
   rcases qdd off l 0 with h | ⟨i, h, hi, hu, ho⟩
   ·omega
   ·rw [qkE] at h
    rw [h, qko]
    have hF : mFrom l i < l.length := by unfold mFrom; split <;> omega
    have hm := hB.mem (qkv (qaH hF))
    simp only
    refine ⟨fun e he => ?_, by simp, ?_⟩
    ·simp at he
     subst he
     exact ⟨by simp only; omega, by simp only; omega, wordN_u _ _⟩
    ·have := qdm (l := [((bkAt l (mFrom l i)).1, wordN (sumTo l (mFrom l i) (mTo l i - mFrom l i)) false)]) (lo := (bkAt l (mFrom l i)).1) (hi := (bkAt l (mFrom l i)).1) (fun e he => by simp at he; subst he; exact ⟨by simp, by simp⟩) (by omega)
     have e1 : linesP 2 0 0 = 1 := by decide
     rw [e1]; omega
theorem qeY {ws : List Int} (h64 : qam ws) {off : Int} {bs : List Int} : EdOK (imgWrite ws off bs).1 (linesP 4 0 bs.length) := by
 have h0 : 0 ≤ linesP 4 0 bs.length := qer (sl := ⟨none, bs.length, 0⟩).1
 unfold imgWrite
 split
 ·exact EdOK.nil h0
 ·rename_i l hb
  have hB := qa2 hb
  have hlen := hB.len
  split
  ·rename_i hw
   have hin := qcs hB hw
   unfold inside at hin
   obtain ⟨o, rfl⟩ := qkF hin.1
   rw [qko]
   have hcur := qdi bs ws o h64
   have hcl := qca bs ws o
   by_cases hz : bs.length = 0
   ·have ht : touched o bs.length = 0 := by rw [hz]; rfl
    rw [ht]
    exact EdOK.nil h0
   have ht : touched o bs.length = (o + bs.length - 1) / 8 - o / 8 + 1 := by unfold touched; rw [if_neg hz]
   have hmem : ∀ e ∈ editsOf (putBs ws o bs) (o / 8) (touched o bs.length), ((o / 8 : Nat) : Int) ≤ e.1 ∧ e.1 ≤ (((o + bs.length - 1) / 8 : Nat) : Int) ∧ isU e.2 := by
    intro e he
    unfold editsOf at he
    rw [List.mem_map] at he
    obtain ⟨j, hj, rfl⟩ := he
    rw [List.mem_range] at hj
    refine ⟨by simp only; omega, by simp only; omega, ?_⟩
    have hlt : o / 8 + j < (putBs ws o bs).length := by omega
    simp only
    rw [qkk, qkj hlt, qkU]
    exact hcur _ (qky hlt)
   simp only
   refine ⟨fun e he => ?_, by rw [qbr]; omega, ?_⟩
   ·have := hmem e he; exact ⟨by omega, by omega, this.2.2⟩
   ·have := qdm (lo := ((o / 8 : Nat) : Int)) (hi := (((o + bs.length - 1) / 8 : Nat) : Int)) (fun e he => ⟨(hmem e he).1, (hmem e he).2.1⟩) (by omega)
    unfold linesP
    rw [if_neg (by omega), if_pos rfl, if_pos (by omega)]
    omega
  ·exact EdOK.nil h0
theorem qfl : ∀ (l : List (Int × Int)) (ws : List Int), qam ws → (∀ e ∈ l, isU e.2) → qam (applyE ws l) := by
 intro l
 induction l with
 | nil => intro ws h _; exact h
 | cons e r ih =>
  intro ws h he
  simp only [applyE, List.foldl_cons]
  refine ih _ ?_ fun e' he' => he e' (by simp [he'])
  unfold putE
  split
  ·intro v hv
   rcases qll hv with hv | rfl
   ·exact h v hv
   ·exact he e (by simp)
  ·exact h
def OpAt (H : AH) (o : Nat) (K a b c : Int) (sl : Sl) : Prop := ∃ e, H.get o = ⟨opl K a b c sl, .rw, e⟩
section
variable {H : AH} {o : Nat} {K a b c : Int} {sl : Sl}
theorem OpAt.c4 (h : OpAt H o K a b c sl) : AH.cell? H (qkm ⟨o, 0, none⟩ 4) = some sl.val := by obtain ⟨e, h⟩ := h; simp [qk, AH.cell?, h, opl]
theorem OpAt.row (h : OpAt H o K a b c sl) : AH.row? H ⟨o, 0, none⟩ 5 = some (opl K a b c sl) := by
 obtain ⟨e, h⟩ := h
 simp only [AH.row?, h, qkC, qkt, if_false, qlt]
 rw [if_neg (by simp), qle (by rw [op_len]; omega), if_pos ⟨by rw [op_len]; omega, op_ok⟩]
theorem OpAt.keep {H' : AH} (h : OpAt H o K a b c sl) (hg : H'.get o = H.get o) : OpAt H' o K a b c sl := by obtain ⟨e, h⟩ := h; exact ⟨e, hg.trans h⟩
theorem OpAt.new {e : Nat} : OpAt (H.push ⟨opl K a b c sl, .rw, e⟩) H.size K a b c sl := ⟨e, by rw [qp, if_pos rfl]⟩
end
end Go.Proofs.YtemeclnpdpkfdaaGreat
