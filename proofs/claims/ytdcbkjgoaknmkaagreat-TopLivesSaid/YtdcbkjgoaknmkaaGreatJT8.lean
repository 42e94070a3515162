/- Lemmas for the law: an abstract machine, and what the functions do on it. No condition. -/
import Derived.Test.YtdcbkjgoaknmkaaGreatJT7
import Derived.Test.YtdcbkjgoaknmkaaGreatProg
set_option linter.all false
open Go.Value renaming int → qkL, pointer → qkR, slice → qk2, bool → qlK, agg → qlQ
open Go.IntKind renaming wrap → qkM, bits → qlI
open Go.Addr renaming add → qkN
open List renaming getElem?_eq_getElem → qkO, getD_eq_getElem?_getD → qkP, getElem?_eq_none → qkT, getElem?_eq_some_iff → qkU, mem_of_getElem? → qkY, getElem?_map → qkZ, length → qk0, length_cons → qk3, getElem_mem → qk5, mem_cons → qk8, ext_getElem? → qlb, getElem?_set_ne → qle, all → qlo, length_eq_zero_iff → qlp, toArray → qlq, cons_append → qlr, getElem?_set_self → qlu, range → qlw, flatMap_cons → qly, getElem?_take → qlD, getElem?_drop → qlE, take_of_length_le → qlH, map_cons → qlN, mem_or_eq_of_mem_set → qlP, range_succ → qlW
open Int renaming toNat_natCast → qkS, toNat → qkX, eq_ofNat_of_zero_le → qk9, tdiv_eq_ediv_of_nonneg → qlJ, tmod → qlM, tdiv → qmc
open Nat renaming le_refl → qkV, zero_add → qla, lt_of_lt_of_le → qlX
open Bool renaming false_eq_true → qkW, not_eq_true' → ql3
open Option renaming isSome_none → qk7, map_some → qlg, isNone → qlj, getD_some → qln, toList_some → qmd
open Go.Abs renaming Rows → qli
open BitVec renaming ofInt → qlz
namespace Go.Proofs.YtdcbkjgoaknmkaaGreat
open Go Go.Abs
set_option linter.unusedVariables false
set_option maxRecDepth 100000
def tyL : List (Nat × TyE) := [
 (3, { k := .int .i64, sub := .none, size := 1, bytes := 8, zero := [(qkL .i64 (0 : Int))], eqs := false }),
 (4, { k := .bool, sub := .none, size := 1, bytes := 1, zero := [(qlK false)], eqs := false }),
 (5, { k := .int .u8, sub := .none, size := 1, bytes := 1, zero := [(qkL .u8 (0 : Int))], eqs := false }),
 (9, { k := .str, sub := .none, size := 1, bytes := 16, zero := [(Value.string ⟨#[]⟩)], eqs := false }),
 (23, { k := .agg, sub := (.fields [(0, 3), (1, 3), (2, 3), (3, 3)]), size := 4, bytes := 32, zero := [(qkL .i64 (0 : Int)), (qkL .i64 (0 : Int)), (qkL .i64 (0 : Int)), (qkL .i64 (0 : Int))], eqs := true }),
 (24, { k := .sl, sub := (.elem 3), size := 1, bytes := 24, zero := [(qk2 none 0 0)], eqs := false }),
 (26, { k := .int .u64, sub := .none, size := 1, bytes := 8, zero := [(qkL .u64 (0 : Int))], eqs := false }),
 (28, { k := .ptr, sub := (.elem 78), size := 1, bytes := 8, zero := [(qkR none)], eqs := false }),
 (31, { k := .int .i64, sub := .none, size := 1, bytes := 8, zero := [(qkL .i64 (0 : Int))], eqs := false }),
 (33, { k := .ptr, sub := (.elem 96), size := 1, bytes := 8, zero := [(qkR none)], eqs := false }),
 (36, { k := .sl, sub := (.elem 5), size := 1, bytes := 24, zero := [(qk2 none 0 0)], eqs := false }),
 (38, { k := .agg, sub := (.fields [(0, 31), (1, 3), (2, 36)]), size := 3, bytes := 40, zero := [(qkL .i64 (0 : Int)), (qkL .i64 (0 : Int)), (qk2 none 0 0)], eqs := false }),
 (41, { k := .agg, sub := (.fields [(0, 3), (1, 3), (2, 3), (3, 3), (4, 36)]), size := 5, bytes := 56, zero := [(qkL .i64 (0 : Int)), (qkL .i64 (0 : Int)), (qkL .i64 (0 : Int)), (qkL .i64 (0 : Int)), (qk2 none 0 0)], eqs := false }),
 (44, { k := .sl, sub := (.elem 38), size := 1, bytes := 24, zero := [(qk2 none 0 0)], eqs := false }),
 (47, { k := .sl, sub := (.elem 41), size := 1, bytes := 24, zero := [(qk2 none 0 0)], eqs := false }),
 (51, { k := .ptr, sub := (.elem 106), size := 1, bytes := 8, zero := [(qkR none)], eqs := false }),
 (64, { k := .ptr, sub := (.elem 115), size := 1, bytes := 8, zero := [(qkR none)], eqs := false }),
 (67, { k := .sl, sub := (.elem 26), size := 1, bytes := 24, zero := [(qk2 none 0 0)], eqs := false }),
 (70, { k := .sl, sub := (.elem 121), size := 1, bytes := 24, zero := [(qk2 none 0 0)], eqs := false }),
 (75, { k := .sl, sub := (.elem 82), size := 1, bytes := 24, zero := [(qk2 none 0 0)], eqs := false }),
 (76, { k := .agg, sub := (.arr 35 26), size := 35, bytes := 280, zero := [(qkL .u64 (0 : Int)), (qkL .u64 (0 : Int)), (qkL .u64 (0 : Int)), (qkL .u64 (0 : Int)), (qkL .u64 (0 : Int)), (qkL .u64 (0 : Int)), (qkL .u64 (0 : Int)), (qkL .u64 (0 : Int)), (qkL .u64 (0 : Int)), (qkL .u64 (0 : Int)), (qkL .u64 (0 : Int)), (qkL .u64 (0 : Int)), (qkL .u64 (0 : Int)), (qkL .u64 (0 : Int)), (qkL .u64 (0 : Int)), (qkL .u64 (0 : Int)), (qkL .u64 (0 : Int)), (qkL .u64 (0 : Int)), (qkL .u64 (0 : Int)), (qkL .u64 (0 : Int)), (qkL .u64 (0 : Int)), (qkL .u64 (0 : Int)), (qkL .u64 (0 : Int)), (qkL .u64 (0 : Int)), (qkL .u64 (0 : Int)), (qkL .u64 (0 : Int)), (qkL .u64 (0 : Int)), (qkL .u64 (0 : Int)), (qkL .u64 (0 : Int)), (qkL .u64 (0 : Int)), (qkL .u64 (0 : Int)), (qkL .u64 (0 : Int)), (qkL .u64 (0 : Int)), (qkL .u64 (0 : Int)), (qkL .u64 (0 : Int))], eqs := true }),
 (78, { k := .agg, sub := (.fields [(0, 75), (1, 76), (36, 3), (37, 3), (38, 3), (39, 4)]), size := 40, bytes := 336, zero := [(qk2 none 0 0), (qkL .u64 (0 : Int)), (qkL .u64 (0 : Int)), (qkL .u64 (0 : Int)), (qkL .u64 (0 : Int)), (qkL .u64 (0 : Int)), (qkL .u64 (0 : Int)), (qkL .u64 (0 : Int)), (qkL .u64 (0 : Int)), (qkL .u64 (0 : Int)), (qkL .u64 (0 : Int)), (qkL .u64 (0 : Int)), (qkL .u64 (0 : Int)), (qkL .u64 (0 : Int)), (qkL .u64 (0 : Int)), (qkL .u64 (0 : Int)), (qkL .u64 (0 : Int)), (qkL .u64 (0 : Int)), (qkL .u64 (0 : Int)), (qkL .u64 (0 : Int)), (qkL .u64 (0 : Int)), (qkL .u64 (0 : Int)), (qkL .u64 (0 : Int)), (qkL .u64 (0 : Int)), (qkL .u64 (0 : Int)), (qkL .u64 (0 : Int)), (qkL .u64 (0 : Int)), (qkL .u64 (0 : Int)), (qkL .u64 (0 : Int)), (qkL .u64 (0 : Int)), (qkL .u64 (0 : Int)), (qkL .u64 (0 : Int)), (qkL .u64 (0 : Int)), (qkL .u64 (0 : Int)), (qkL .u64 (0 : Int)), (qkL .u64 (0 : Int)), (qkL .i64 (0 : Int)), (qkL .i64 (0 : Int)), (qkL .i64 (0 : Int)), (qlK false)], eqs := false }),
 (80, { k := .agg, sub := (.arr 8 26), size := 8, bytes := 64, zero := [(qkL .u64 (0 : Int)), (qkL .u64 (0 : Int)), (qkL .u64 (0 : Int)), (qkL .u64 (0 : Int)), (qkL .u64 (0 : Int)), (qkL .u64 (0 : Int)), (qkL .u64 (0 : Int)), (qkL .u64 (0 : Int))], eqs := true }),
 (82, { k := .agg, sub := (.fields [(0, 80), (8, 3), (9, 3)]), size := 10, bytes := 80, zero := [(qkL .u64 (0 : Int)), (qkL .u64 (0 : Int)), (qkL .u64 (0 : Int)), (qkL .u64 (0 : Int)), (qkL .u64 (0 : Int)), (qkL .u64 (0 : Int)), (qkL .u64 (0 : Int)), (qkL .u64 (0 : Int)), (qkL .i64 (0 : Int)), (qkL .i64 (0 : Int))], eqs := false }),
 (85, { k := .ptr, sub := (.elem 128), size := 1, bytes := 8, zero := [(qkR none)], eqs := false }),
 (93, { k := .ptr, sub := (.elem 131), size := 1, bytes := 8, zero := [(qkR none)], eqs := false }),
 (94, { k := .ptr, sub := (.elem 140), size := 1, bytes := 8, zero := [(qkR none)], eqs := false }),
 (96, { k := .agg, sub := (.fields [(0, 28), (1, 23), (5, 85), (6, 93), (7, 94), (8, 4)]), size := 9, bytes := 72, zero := [(qkR none), (qkL .i64 (0 : Int)), (qkL .i64 (0 : Int)), (qkL .i64 (0 : Int)), (qkL .i64 (0 : Int)), (qkR none), (qkR none), (qkR none), (qlK false)], eqs := false }),
 (106, { k := .agg, sub := (.fields [(0, 23), (4, 28), (5, 33), (6, 3)]), size := 7, bytes := 56, zero := [(qkL .i64 (0 : Int)), (qkL .i64 (0 : Int)), (qkL .i64 (0 : Int)), (qkL .i64 (0 : Int)), (qkR none), (qkR none), (qkL .i64 (0 : Int))], eqs := false }),
 (112, { k := .ptr, sub := (.elem 156), size := 1, bytes := 8, zero := [(qkR none)], eqs := false }),
 (115, { k := .agg, sub := (.fields [(0, 112), (1, 4)]), size := 2, bytes := 16, zero := [(qkR none), (qlK false)], eqs := false }),
 (121, { k := .agg, sub := (.fields [(0, 3), (1, 3), (2, 4)]), size := 3, bytes := 24, zero := [(qkL .i64 (0 : Int)), (qkL .i64 (0 : Int)), (qlK false)], eqs := true }),
 (126, { k := .ptr, sub := (.elem 173), size := 1, bytes := 8, zero := [(qkR none)], eqs := false }),
 (128, { k := .agg, sub := (.fields [(0, 28), (1, 126), (2, 3), (3, 3), (4, 3)]), size := 5, bytes := 40, zero := [(qkR none), (qkR none), (qkL .i64 (0 : Int)), (qkL .i64 (0 : Int)), (qkL .i64 (0 : Int))], eqs := false }),
 (131, { k := .agg, sub := (.fields [(0, 28), (1, 85)]), size := 2, bytes := 16, zero := [(qkR none), (qkR none)], eqs := false }),
 (132, { k := .sl, sub := (.elem 164), size := 1, bytes := 24, zero := [(qk2 none 0 0)], eqs := false }),
 (140, { k := .agg, sub := (.fields [(0, 3), (1, 24), (2, 24)]), size := 3, bytes := 56, zero := [(qkL .i64 (0 : Int)), (qk2 none 0 0), (qk2 none 0 0)], eqs := false }),
 (142, { k := .sl, sub := (.elem 190), size := 1, bytes := 24, zero := [(qk2 none 0 0)], eqs := false }),
 (154, { k := .sl, sub := (.elem 168), size := 1, bytes := 24, zero := [(qk2 none 0 0)], eqs := false }),
 (156, { k := .agg, sub := (.fields [(0, 3), (1, 154), (2, 3)]), size := 3, bytes := 40, zero := [(qkL .i64 (0 : Int)), (qk2 none 0 0), (qkL .i64 (0 : Int))], eqs := false }),
 (164, { k := .agg, sub := (.fields [(0, 3), (1, 80)]), size := 9, bytes := 72, zero := [(qkL .i64 (0 : Int)), (qkL .u64 (0 : Int)), (qkL .u64 (0 : Int)), (qkL .u64 (0 : Int)), (qkL .u64 (0 : Int)), (qkL .u64 (0 : Int)), (qkL .u64 (0 : Int)), (qkL .u64 (0 : Int)), (qkL .u64 (0 : Int))], eqs := false }),
 (168, { k := .agg, sub := (.fields [(0, 3), (1, 3), (2, 36)]), size := 3, bytes := 40, zero := [(qkL .i64 (0 : Int)), (qkL .i64 (0 : Int)), (qk2 none 0 0)], eqs := false }),
 (173, { k := .agg, sub := (.fields [(0, 28), (1, 3), (2, 3)]), size := 3, bytes := 24, zero := [(qkR none), (qkL .i64 (0 : Int)), (qkL .i64 (0 : Int))], eqs := false }),
 (181, { k := .any, sub := .none, size := 1, bytes := 8, zero := [Value.nilFunc], eqs := false }),
 (190, { k := .agg, sub := (.fields [(0, 3), (1, 26)]), size := 2, bytes := 16, zero := [(qkL .i64 (0 : Int)), (qkL .u64 (0 : Int))], eqs := true }),
 (211, { k := .sl, sub := (.elem 80), size := 1, bytes := 24, zero := [(qk2 none 0 0)], eqs := false }),
 (225, { k := .any, sub := .none, size := 1, bytes := 8, zero := [Value.nilFunc], eqs := false }),
 (0, { k := .bad, sub := .tup [], size := 0, bytes := 0, zero := [], eqs := false }),
 (34, { k := .bad, sub := .tup [33, 31], size := 0, bytes := 0, zero := [], eqs := false }),
 (45, { k := .bad, sub := .tup [44, 31], size := 0, bytes := 0, zero := [], eqs := false }),
 (52, { k := .bad, sub := .tup [51, 31], size := 0, bytes := 0, zero := [], eqs := false }),
 (68, { k := .bad, sub := .tup [67, 31], size := 0, bytes := 0, zero := [], eqs := false }),
 (71, { k := .bad, sub := .tup [70, 4], size := 0, bytes := 0, zero := [], eqs := false }),
 (83, { k := .bad, sub := .tup [26, 31], size := 0, bytes := 0, zero := [], eqs := false }),
 (88, { k := .bad, sub := .tup [80, 31], size := 0, bytes := 0, zero := [], eqs := false }),
 (110, { k := .bad, sub := .tup [41, 4], size := 0, bytes := 0, zero := [], eqs := false }),
 (116, { k := .bad, sub := .tup [36, 31], size := 0, bytes := 0, zero := [], eqs := false }),
 (118, { k := .bad, sub := .tup [3, 4, 4], size := 0, bytes := 0, zero := [], eqs := false }),
 (133, { k := .bad, sub := .tup [132, 31], size := 0, bytes := 0, zero := [], eqs := false }),
 (137, { k := .bad, sub := .tup [70, 3], size := 0, bytes := 0, zero := [], eqs := false }),
 (143, { k := .bad, sub := .tup [142, 3, 31], size := 0, bytes := 0, zero := [], eqs := false }),
 (148, { k := .bad, sub := .tup [142, 31], size := 0, bytes := 0, zero := [], eqs := false }),
 (170, { k := .bad, sub := .tup [3, 67, 31], size := 0, bytes := 0, zero := [], eqs := false }),
 (174, { k := .bad, sub := .tup [3, 3], size := 0, bytes := 0, zero := [], eqs := false }),
 (187, { k := .bad, sub := .tup [3, 4], size := 0, bytes := 0, zero := [], eqs := false }),
 (191, { k := .bad, sub := .tup [190, 4], size := 0, bytes := 0, zero := [], eqs := false }),
 (194, { k := .bad, sub := .tup [36, 4], size := 0, bytes := 0, zero := [], eqs := false }),
 (196, { k := .bad, sub := .tup [142, 4], size := 0, bytes := 0, zero := [], eqs := false }),
 (212, { k := .bad, sub := .tup [3, 3, 4], size := 0, bytes := 0, zero := [], eqs := false })]
def T : Nat → TyE := tyLook tyL
theorem hT : qM Tryz.prog T := qjl (by kernel_rfl)
theorem hm : Tryz.prog.follows .mixedOrders = true := by kernel_rfl
def pan (f : Nat) : Bool := ([63, 64, 65, 66, 67, 68, 69, 108, 110, 113, 114] : List Nat).contains f
def log_May (x0 : Int) (x1 : Sl) (H : AH) (k : Bool → AH → Prop) : Prop :=
 qf Tryz.prog 104 [(qkL .i64 x0), (Sl.val x1)] H fun e H' => in1 .bool e qm (fun r0 => k r0 H')
def qr (x0 : Option Addr) (x1 : List Value) (H : AH) (k : List Value → AH → Prop) : Prop :=
 qf Tryz.prog 18 [(qkR x0), (qlQ (qlq x1))] H fun e H' => in1 .agg e qm (fun r0 => k r0 H')
def qb9 (x0 : Sl) (H : AH) (k : AH → Prop) : Prop :=
 qf Tryz.prog 176 [(Sl.val x0)] H fun e H' => in0  e qm (k H')
def qbN (x0 : Sl) (H : AH) (k : Sl → AH → Prop) : Prop :=
 qf Tryz.prog 177 [(Sl.val x0)] H fun e H' => in1 .sl e qm (fun r0 => k r0 H')
def qq (x0 : Sl) (x1b0 : Option Addr) (x1b1 : Option Addr) (H : AH) (k : Int → AH → Prop) : Prop :=
 qf Tryz.prog 142 [(Sl.val x0), (Value.func (.func 193) #[] #[(qkR x1b0), (qkR x1b1)])] H fun e H' => in1 (.int .i64) e qm (fun r0 => k r0 H')
def qF (x0 : Sl) (x1b0 : Option Addr) (x1b1 : Option Addr) (H : AH) (k : Bool → AH → Prop) : Prop :=
 qf Tryz.prog 192 [(Sl.val x0), (Value.func (.func 193) #[] #[(qkR x1b0), (qkR x1b1)])] H fun e H' => in1 .bool e qm (fun r0 => k r0 H')
def qu (x0 : Sl) (x1b0 : Option Addr) (H : AH) (k : Int → AH → Prop) : Prop :=
 qf Tryz.prog 142 [(Sl.val x0), (Value.func (.func 143) #[] #[(qkR x1b0)])] H fun e H' => in1 (.int .i64) e qm (fun r0 => k r0 H')
def qaK (x0 : Int) (x1 : Int) (x2 : Int) (x3 : Int) (H : AH) (k : List Value → AH → Prop) : Prop :=
 qf Tryz.prog 36 [(qkL .i64 x0), (qkL .i64 x1), (qkL .i64 x2), (qkL .i64 x3)] H fun e H' => in1 .agg e qm (fun r0 => k r0 H')
def qbq (x0 : List Value) (H : AH) (k : List Value → AH → Prop) : Prop :=
 qf Tryz.prog 12 [(qlQ (qlq x0))] H fun e H' => in1 .agg e qm (fun r0 => k r0 H')
def qaM (x0 : List Value) (H : AH) (k : Bool → AH → Prop) : Prop :=
 qf Tryz.prog 48 [(qlQ (qlq x0))] H fun e H' => in1 .bool e qm (fun r0 => k r0 H')
def qa9 (x0 : List Value) (H : AH) (k : Int → AH → Prop) : Prop :=
 qf Tryz.prog 49 [(qlQ (qlq x0))] H fun e H' => in1 (.int .i64) e qm (fun r0 => k r0 H')
def qaz (x0 : List Value) (H : AH) (k : Int → AH → Prop) : Prop :=
 qf Tryz.prog 15 [(qlQ (qlq x0))] H fun e H' => in1 (.int .i64) e qm (fun r0 => k r0 H')
def nvm_New (x0 : Int) (x1 : Sl) (H : AH) (k : Option Addr → AH → Prop) : Prop :=
 qf Tryz.prog 14 [(qkL .i64 x0), (Sl.val x1)] H fun e H' => in1 .ptr e qm (fun r0 => k r0 H')
def qP (x0 : Option Addr) (H : AH) (k : Int → AH → Prop) : Prop :=
 qf Tryz.prog 91 [(qkR x0)] H fun e H' => in1 (.int .i64) e qm (fun r0 => k r0 H')
def qW (x0 : Option Addr) (H : AH) (k : Bool → AH → Prop) : Prop :=
 qf Tryz.prog 38 [(qkR x0)] H fun e H' => in1 .bool e qm (fun r0 => k r0 H')
def qbf (x0 : Option Addr) (x1 : List Value) (H : AH) (k : Int → AH → Prop) : Prop :=
 qf Tryz.prog 50 [(qkR x0), (qlQ (qlq x1))] H fun e H' => in1 (.int .i64) e qm (fun r0 => k r0 H')
def qaq (x0 : Option Addr) (x1 : Int) (H : AH) (k : Bool → AH → Prop) : Prop :=
 qf Tryz.prog 92 [(qkR x0), (qkL .i64 x1)] H fun e H' => in1 .bool e qm (fun r0 => k r0 H')
def qE (x0 : Option Addr) (x1 : Int) (H : AH) (k : Int → Int → AH → Prop) : Prop :=
 qf Tryz.prog 51 [(qkR x0), (qkL .i64 x1)] H fun e H' => in2 (.int .u64) (.int .i64) e qm (fun r0 r1 => k r0 r1 H')
def qD (x0 : Option Addr) (H : AH) (k : Sl → Int → AH → Prop) : Prop :=
 qf Tryz.prog 158 [(qkR x0)] H fun e H' => in2 .sl (.int .i64) e qm (fun r0 r1 => k r0 r1 H')
def qbK (x0 : Int) (H : AH) (k : Int → AH → Prop) : Prop :=
 qf Tryz.prog 140 [(qkL .i64 x0)] H fun e H' => in1 (.int .u64) e qm (fun r0 => k r0 H')
def qaA (x0 : Sl) (x1 : Int) (H : AH) (k : Bool → AH → Prop) : Prop :=
 qf Tryz.prog 169 [(Sl.val x0), (qkL .i64 x1)] H fun e H' => in1 .bool e qm (fun r0 => k r0 H')
def qax (x0 : Option Addr) (x1 : Int) (x2 : Int) (H : AH) (k : Option Addr → AH → Prop) : Prop :=
 qf Tryz.prog 131 [(qkR x0), (qkL .i64 x1), (qkL .i64 x2)] H fun e H' => in1 .ptr e qm (fun r0 => k r0 H')
def qaN (x0 : Option Addr) (x1 : Int) (x2 : Int) (x3 : Int) (H : AH) (k : Option Addr → AH → Prop) : Prop :=
 qf Tryz.prog 93 [(qkR x0), (qkL .i64 x1), (qkL .i64 x2), (qkL .i64 x3)] H fun e H' => in1 .ptr e qm (fun r0 => k r0 H')
def qbj (x0 : Option Addr) (x1 : List Value) (H : AH) (k : Option Addr → AH → Prop) : Prop :=
 qf Tryz.prog 52 [(qkR x0), (qlQ (qlq x1))] H fun e H' => in1 .ptr e qm (fun r0 => k r0 H')
def qb5 (x0 : List Value) (H : AH) (k : Int → AH → Prop) : Prop :=
 qf Tryz.prog 42 [(qlQ (qlq x0))] H fun e H' => in1 (.int .i64) e qm (fun r0 => k r0 H')
def qaP (x0 : Int) (H : AH) (k : Bool → AH → Prop) : Prop :=
 qf Tryz.prog 94 [(qkL .i64 x0)] H fun e H' => in1 .bool e qm (fun r0 => k r0 H')
def qaW (x0 : Int) (H : AH) (k : Bool → AH → Prop) : Prop :=
 qf Tryz.prog 129 [(qkL .i64 x0)] H fun e H' => in1 .bool e qm (fun r0 => k r0 H')
def qbk (x0 : Int) (x1 : Bool) (H : AH) (k : Int → AH → Prop) : Prop :=
 qf Tryz.prog 95 [(qkL .i64 x0), (qlK x1)] H fun e H' => in1 (.int .u64) e qm (fun r0 => k r0 H')
def qbT (x0 : Int) (H : AH) (k : Sl → AH → Prop) : Prop :=
 qf Tryz.prog 53 [(qkL .i64 x0)] H fun e H' => in1 .sl e qm (fun r0 => k r0 H')
def qa4 (x0 : List Value) (x1 : Int) (H : AH) (k : Int → AH → Prop) : Prop :=
 qf Tryz.prog 55 [(qlQ (qlq x0)), (qkL .i64 x1)] H fun e H' => in1 (.int .i64) e qm (fun r0 => k r0 H')
def qaD (x0 : Option Addr) (x1 : Int) (H : AH) (k : Int → AH → Prop) : Prop :=
 qf Tryz.prog 96 [(qkR x0), (qkL .i64 x1)] H fun e H' => in1 (.int .i64) e qm (fun r0 => k r0 H')
def qa1 (x0 : Option Addr) (H : AH) (k : Int → AH → Prop) : Prop :=
 qf Tryz.prog 99 [(qkR x0)] H fun e H' => in1 (.int .i64) e qm (fun r0 => k r0 H')
def gap_may (x0 : Int) (x1 : Int) (H : AH) (k : Bool → AH → Prop) : Prop :=
 qf Tryz.prog 134 [(qkL .i64 x0), (qkL .i64 x1)] H fun e H' => in1 .bool e qm (fun r0 => k r0 H')
def qb3 (x0 : Int) (x1 : Int) (H : AH) (k : Int → AH → Prop) : Prop :=
 qf Tryz.prog 135 [(qkL .i64 x0), (qkL .i64 x1)] H fun e H' => in1 (.int .i64) e qm (fun r0 => k r0 H')
def gap_Gap (x0 : Int) (x1 : Int) (H : AH) (k : Int → AH → Prop) : Prop :=
 qf Tryz.prog 136 [(qkL .i64 x0), (qkL .i64 x1)] H fun e H' => in1 (.int .i64) e qm (fun r0 => k r0 H')
def qbn (x0 : Int) (x1 : Int) (x2 : Int) (H : AH) (k : Int → AH → Prop) : Prop :=
 qf Tryz.prog 98 [(qkL .i64 x0), (qkL .i64 x1), (qkL .i64 x2)] H fun e H' => in1 (.int .i64) e qm (fun r0 => k r0 H')
def qam (x0 : Sl) (x1 : Int) (x2 : Int) (H : AH) (k : Int → AH → Prop) : Prop :=
 qf Tryz.prog 170 [(Sl.val x0), (qkL .i64 x1), (qkL .i64 x2)] H fun e H' => in1 (.int .i64) e qm (fun r0 => k r0 H')
def qab (x0 : Option Addr) (x1 : Int) (H : AH) (k : Int → Sl → Int → AH → Prop) : Prop :=
 qf Tryz.prog 132 [(qkR x0), (qkL .i64 x1)] H fun e H' => in3 (.int .i64) .sl (.int .i64) e qm (fun r0 r1 r2 => k r0 r1 r2 H')
def qaO (x0 : Option Addr) (x1 : Int) (H : AH) (k : Bool → AH → Prop) : Prop :=
 qf Tryz.prog 171 [(qkR x0), (qkL .i64 x1)] H fun e H' => in1 .bool e qm (fun r0 => k r0 H')
def qba (x0 : Option Addr) (x1 : Int) (H : AH) (k : List Value → Int → AH → Prop) : Prop :=
 qf Tryz.prog 133 [(qkR x0), (qkL .i64 x1)] H fun e H' => in2 .agg (.int .i64) e qm (fun r0 r1 => k r0 r1 H')
def qbl (x0 : Option Addr) (x1 : Int) (H : AH) (k : List Value → Int → AH → Prop) : Prop :=
 qf Tryz.prog 97 [(qkR x0), (qkL .i64 x1)] H fun e H' => in2 .agg (.int .i64) e qm (fun r0 r1 => k r0 r1 H')
def qaE (x0 : Option Addr) (x1 : Int) (H : AH) (k : List Value → Int → AH → Prop) : Prop :=
 qf Tryz.prog 54 [(qkR x0), (qkL .i64 x1)] H fun e H' => in2 .agg (.int .i64) e qm (fun r0 r1 => k r0 r1 H')
def qaU (x0 : Sl) (x1 : Int) (H : AH) (k : List Value → AH → Prop) : Prop :=
 qf Tryz.prog 56 [(Sl.val x0), (qkL .i64 x1)] H fun e H' => in1 .agg e qm (fun r0 => k r0 H')
def qcr (x0 : Int) (x1 : Int) (H : AH) (k : Int → Int → AH → Prop) : Prop :=
 qf Tryz.prog 137 [(qkL .i64 x0), (qkL .i64 x1)] H fun e H' => in2 (.int .i64) (.int .i64) e qm (fun r0 r1 => k r0 r1 H')
def qaw (x0 : Option Addr) (H : AH) (k : Int → AH → Prop) : Prop :=
 qf Tryz.prog 156 [(qkR x0)] H fun e H' => in1 (.int .i64) e qm (fun r0 => k r0 H')
def qbg (x0 : List Value) (x1 : List Value) (x2 : Int) (H : AH) (k : List Value → AH → Prop) : Prop :=
 qf Tryz.prog 172 [(qlQ (qlq x0)), (qlQ (qlq x1)), (qkL .i64 x2)] H fun e H' => in1 .agg e qm (fun r0 => k r0 H')
def qan (x0 : Option Addr) (x1 : Bool) (H : AH) (k : Int → AH → Prop) : Prop :=
 qf Tryz.prog 157 [(qkR x0), (qlK x1)] H fun e H' => in1 (.int .i64) e qm (fun r0 => k r0 H')
def qK (x0 : Option Addr) (x1 : Int) (x2 : List Value) (H : AH) (k : Int → AH → Prop) : Prop :=
 qf Tryz.prog 138 [(qkR x0), (qkL .i64 x1), (qlQ (qlq x2))] H fun e H' => in1 (.int .i64) e qm (fun r0 => k r0 H')
def qa7 (x0 : Sl) (H : AH) (k : Int → AH → Prop) : Prop :=
 qf Tryz.prog 139 [(Sl.val x0)] H fun e H' => in1 (.int .i64) e qm (fun r0 => k r0 H')
def qz (x0 : Option Addr) (x1 : Int) (x2 : Int) (H : AH) (k : Int → AH → Prop) : Prop :=
 qf Tryz.prog 118 [(qkR x0), (qkL .i64 x1), (qkL .u64 x2)] H fun e H' => in1 (.int .i64) e qm (fun r0 => k r0 H')
def qaj (x0 : Option Addr) (x1 : Int) (x2 : List Value) (H : AH) (k : Int → AH → Prop) : Prop :=
 qf Tryz.prog 101 [(qkR x0), (qkL .i64 x1), (qlQ (qlq x2))] H fun e H' => in1 (.int .i64) e qm (fun r0 => k r0 H')
def qbb (x0 : Option Addr) (H : AH) (k : Int → AH → Prop) : Prop :=
 qf Tryz.prog 100 [(qkR x0)] H fun e H' => in1 (.int .i64) e qm (fun r0 => k r0 H')
def qal (x0 : Option Addr) (x1 : Int) (x2 : List Value) (H : AH) (k : Int → AH → Prop) : Prop :=
 qf Tryz.prog 57 [(qkR x0), (qkL .i64 x1), (qlQ (qlq x2))] H fun e H' => in1 (.int .i64) e qm (fun r0 => k r0 H')
def qB (x0 : Option Addr) (x1 : List Value) (H : AH) (k : Int → AH → Prop) : Prop :=
 qf Tryz.prog 16 [(qkR x0), (qlQ (qlq x1))] H fun e H' => in1 (.int .i64) e qm (fun r0 => k r0 H')
def qau (x0 : Option Addr) (H : AH) (k : Int → AH → Prop) : Prop :=
 qf Tryz.prog 102 [(qkR x0)] H fun e H' => in1 (.int .i64) e qm (fun r0 => k r0 H')
def log_New (x0 : Option Addr) (x1 : Option Addr) (H : AH) (k : Option Addr → AH → Prop) : Prop :=
 qf Tryz.prog 58 [(qkR x0), (qkR x1)] H fun e H' => in1 .ptr e qm (fun r0 => k r0 H')
def qbY (x0 : Int) (H : AH) (k : Int → AH → Prop) : Prop :=
 qf Tryz.prog 141 [(qkL .i64 x0)] H fun e H' => in1 (.int .i64) e qm (fun r0 => k r0 H')
def qZ (x0 : Option Addr) (H : AH) (k : Sl → Int → AH → Prop) : Prop :=
 qf Tryz.prog 103 [(qkR x0)] H fun e H' => in2 .sl (.int .i64) e qm (fun r0 r1 => k r0 r1 H')
def qae (x0 : Option Addr) (x1 : Sl) (H : AH) (k : Int → AH → Prop) : Prop :=
 qf Tryz.prog 105 [(qkR x0), (Sl.val x1)] H fun e H' => in1 (.int .i64) e qm (fun r0 => k r0 H')
def qbC (x0 : Option Addr) (H : AH) (k : Int → AH → Prop) : Prop :=
 qf Tryz.prog 59 [(qkR x0)] H fun e H' => in1 (.int .i64) e qm (fun r0 => k r0 H')
def qX (x0 : Option Addr) (x1 : Int) (H : AH) (k : List Value → Int → AH → Prop) : Prop :=
 qf Tryz.prog 87 [(qkR x0), (qkL .i64 x1)] H fun e H' => in2 .agg (.int .i64) e qm (fun r0 r1 => k r0 r1 H')
def qS (x0 : Option Addr) (H : AH) (k : Sl → Int → AH → Prop) : Prop :=
 qf Tryz.prog 44 [(qkR x0)] H fun e H' => in2 .sl (.int .i64) e qm (fun r0 r1 => k r0 r1 H')
def qa3 (x0 : Int) (H : AH) (k : Int → Bool → Bool → AH → Prop) : Prop :=
 qf Tryz.prog 88 [(qkL .u64 x0)] H fun e H' => in3 (.int .i64) .bool .bool e qm (fun r0 r1 r2 => k r0 r1 r2 H')
def qQ (x0 : Sl) (x1 : Int) (H : AH) (k : Bool → AH → Prop) : Prop :=
 qf Tryz.prog 89 [(Sl.val x0), (qkL .i64 x1)] H fun e H' => in1 .bool e qm (fun r0 => k r0 H')
def qI (x0 : Sl) (H : AH) (k : Sl → Bool → AH → Prop) : Prop :=
 qf Tryz.prog 45 [(Sl.val x0)] H fun e H' => in2 .sl .bool e qm (fun r0 r1 => k r0 r1 H')
def qaV (x0 : List Value) (H : AH) (k : Int → AH → Prop) : Prop :=
 qf Tryz.prog 144 [(qlQ (qlq x0))] H fun e H' => in1 (.int .i64) e qm (fun r0 => k r0 H')
def qa8 (x0 : List Value) (x1 : Option Addr) (H : AH) (k : Bool → AH → Prop) : Prop :=
 qf Tryz.prog 143 [(qlQ (qlq x0)), (qkR x1)] H fun e H' => in1 .bool e qm (fun r0 => k r0 H')
def qbH (x0 : Sl) (x1 : Int) (H : AH) (k : Sl → Int → AH → Prop) : Prop :=
 qf Tryz.prog 106 [(Sl.val x0), (qkL .i64 x1)] H fun e H' => in2 .sl (.int .i64) e qm (fun r0 r1 => k r0 r1 H')
def qb1 (x0 : Sl) (x1 : Int) (H : AH) (k : Bool → AH → Prop) : Prop :=
 qf Tryz.prog 60 [(Sl.val x0), (qkL .i64 x1)] H fun e H' => in1 .bool e qm (fun r0 => k r0 H')
def qbV (x0 : Int) (H : AH) (k : Int → AH → Prop) : Prop :=
 qf Tryz.prog 107 [(qkL .i64 x0)] H fun e H' => in1 (.int .i64) e qm (fun r0 => k r0 H')
def qb2 (x0 : List Value) (H : AH) (k : Int → AH → Prop) : Prop :=
 qf Tryz.prog 61 [(qlQ (qlq x0))] H fun e H' => in1 (.int .i64) e qm (fun r0 => k r0 H')
def qaI (x0 : Int) (x1 : Sl) (H : AH) (k : Option Addr → AH → Prop) : Prop :=
 qf Tryz.prog 62 [(qkL .i64 x0), (Sl.val x1)] H fun e H' => in1 .ptr e qm (fun r0 => k r0 H')
def qN (x0 : Option Addr) (x1 : List Value) (H : AH) (k : Option Addr → Int → AH → Prop) : Prop :=
 qf Tryz.prog 17 [(qkR x0), (qlQ (qlq x1))] H fun e H' => in2 .ptr (.int .i64) e qm (fun r0 r1 => k r0 r1 H')
def qaG (x0 : Option Addr) (H : AH) (k : Int → AH → Prop) : Prop :=
 qf Tryz.prog 72 [(qkR x0)] H fun e H' => in1 (.int .i64) e qm (fun r0 => k r0 H')
def qbO (x0 : List Value) (x1 : Sl) (H : AH) (k : Option Addr → Int → AH → Prop) : Prop :=
 qf Tryz.prog 24 [(qlQ (qlq x0)), (Sl.val x1)] H fun e H' => in2 .ptr (.int .i64) e qm (fun r0 r1 => k r0 r1 H')
def qap (x0 : Option Addr) (H : AH) (k : Int → AH → Prop) : Prop :=
 qf Tryz.prog 26 [(qkR x0)] H fun e H' => in1 (.int .i64) e qm (fun r0 => k r0 H')
def qaB (x0 : Option Addr) (x1 : Int) (x2 : Int) (H : AH) (k : AH → Prop) : Prop :=
 qf Tryz.prog 120 [(qkR x0), (qkL .i64 x1), (qkL .i64 x2)] H fun e H' => in0  e qm (k H')
def qao (x0 : Option Addr) (H : AH) (k : AH → Prop) : Prop :=
 qf Tryz.prog 121 [(qkR x0)] H fun e H' => in0  e qm (k H')
def qaS (x0 : Option Addr) (x1 : List Value) (H : AH) (k : List Value → AH → Prop) : Prop :=
 qf Tryz.prog 73 [(qkR x0), (qlQ (qlq x1))] H fun e H' => in1 .agg e qm (fun r0 => k r0 H')
def qad (x0 : Option Addr) (x1 : List Value) (H : AH) (k : List Value → AH → Prop) : Prop :=
 qf Tryz.prog 28 [(qkR x0), (qlQ (qlq x1))] H fun e H' => in1 .agg e qm (fun r0 => k r0 H')
def qR  (H : AH) (k : Bool → AH → Prop) : Prop :=
 qf Tryz.prog 13 [] H fun e H' => in1 .bool e qm (fun r0 => k r0 H')
def qaX (x0 : Sl) (H : AH) (k : Int → AH → Prop) : Prop :=
 qf Tryz.prog 159 [(Sl.val x0)] H fun e H' => in1 (.int .i64) e qm (fun r0 => k r0 H')
def qbo (x0 : Option Addr) (H : AH) (k : Int → AH → Prop) : Prop :=
 qf Tryz.prog 119 [(qkR x0)] H fun e H' => in1 (.int .i64) e qm (fun r0 => k r0 H')
def qbv (x0 : Option Addr) (H : AH) (k : Int → AH → Prop) : Prop :=
 qf Tryz.prog 70 [(qkR x0)] H fun e H' => in1 (.int .i64) e qm (fun r0 => k r0 H')
def qbx (x0 : Option Addr) (H : AH) (k : Int → AH → Prop) : Prop :=
 qf Tryz.prog 19 [(qkR x0)] H fun e H' => in1 (.int .i64) e qm (fun r0 => k r0 H')
def qbm (x0 : Option Addr) (H : AH) (k : Bool → AH → Prop) : Prop :=
 qf Tryz.prog 71 [(qkR x0)] H fun e H' => in1 .bool e qm (fun r0 => k r0 H')
def qby (x0 : Option Addr) (H : AH) (k : Bool → AH → Prop) : Prop :=
 qf Tryz.prog 20 [(qkR x0)] H fun e H' => in1 .bool e qm (fun r0 => k r0 H')
def qh (x0 : List Value) (x1 : Sl) (x2 : Int) (H : AH) (k : Bool → AH → Prop) : Prop :=
 qf Tryz.prog 3 [(qlQ (qlq x0)), (Sl.val x1), (qkL .i64 x2)] H fun e H' => in1 .bool e qm (fun r0 => k r0 H')
def qbz (x0 : Int) (H : AH) (k : Int → AH → Prop) : Prop :=
 qf Tryz.prog 109 [(qkL .i64 x0)] H fun e H' => in1 (.int .i64) e qm (fun r0 => k r0 H')
def qO (x0 : Sl) (x1 : Int) (H : AH) (k : Sl → AH → Prop) : Prop :=
 qf Tryz.prog 164 [(Sl.val x0), (qkL .i64 x1)] H fun e H' => in1 .sl e qm (fun r0 => k r0 H')
def qbA (x0 : Int) (x1 : Int) (H : AH) (k : Int → AH → Prop) : Prop :=
 qf Tryz.prog 162 [(qkL .i64 x0), (qkL .i64 x1)] H fun e H' => in1 (.int .i64) e qm (fun r0 => k r0 H')
def qY (x0 : Int) (H : AH) (pk : Value → AH → Prop) (k : AH → Prop) : Prop :=
 qf Tryz.prog 113 [(qkL .i64 x0)] H fun e H' => in0  e (fun v => pk v H') (k H')
def qaC (x0 : Option Addr) (H : AH) (pk : Value → AH → Prop) (k : Sl → AH → Prop) : Prop :=
 qf Tryz.prog 108 [(qkR x0)] H fun e H' => in1 .sl e (fun v => pk v H') (fun r0 => k r0 H')
def qag (x0 : Option Addr) (H : AH) (pk : Value → AH → Prop) (k : AH → Prop) : Prop :=
 qf Tryz.prog 110 [(qkR x0)] H fun e H' => in0  e (fun v => pk v H') (k H')
def qav (x0 : Sl) (H : AH) (k : Sl → AH → Prop) : Prop :=
 qf Tryz.prog 147 [(Sl.val x0)] H fun e H' => in1 .sl e qm (fun r0 => k r0 H')
def qbE (x0 : Option Addr) (H : AH) (k : Sl → AH → Prop) : Prop :=
 qf Tryz.prog 112 [(qkR x0)] H fun e H' => in1 .sl e qm (fun r0 => k r0 H')
def qbd (x0 : List Value) (x1 : Sl) (H : AH) (k : Int → AH → Prop) : Prop :=
 qf Tryz.prog 173 [(qlQ (qlq x0)), (Sl.val x1)] H fun e H' => in1 (.int .i64) e qm (fun r0 => k r0 H')
def qas (x0 : Sl) (x1 : Int) (x2 : Sl) (H : AH) (k : Int → AH → Prop) : Prop :=
 qf Tryz.prog 145 [(Sl.val x0), (qkL .i64 x1), (Sl.val x2)] H fun e H' => in1 (.int .i64) e qm (fun r0 => k r0 H')
def qar (x0 : Sl) (H : AH) (k : Int → AH → Prop) : Prop :=
 qf Tryz.prog 189 [(Sl.val x0)] H fun e H' => in1 (.int .i64) e qm (fun r0 => k r0 H')
def qaJ (x0 : Sl) (x1 : Int) (x2 : Int) (H : AH) (k : Sl → AH → Prop) : Prop :=
 qf Tryz.prog 174 [(Sl.val x0), (qkL .i64 x1), (qkL .i64 x2)] H fun e H' => in1 .sl e qm (fun r0 => k r0 H')
def qT (x0 : Sl) (x1 : Int) (x2 : Int) (H : AH) (k : Sl → AH → Prop) : Prop :=
 qf Tryz.prog 146 [(Sl.val x0), (qkL .i64 x1), (qkL .i64 x2)] H fun e H' => in1 .sl e qm (fun r0 => k r0 H')
def qbu (x0 : Sl) (x1 : Int) (x2 : Sl) (H : AH) (k : Sl → Int → Int → AH → Prop) : Prop :=
 qf Tryz.prog 111 [(Sl.val x0), (qkL .i64 x1), (Sl.val x2)] H fun e H' => in3 .sl (.int .i64) (.int .i64) e qm (fun r0 r1 r2 => k r0 r1 r2 H')
def qU (x0 : Sl) (H : AH) (k : Sl → AH → Prop) : Prop :=
 qf Tryz.prog 175 [(Sl.val x0)] H fun e H' => in1 .sl e qm (fun r0 => k r0 H')
def qay (x0 : Sl) (x1 : Sl) (H : AH) (k : Sl → AH → Prop) : Prop :=
 qf Tryz.prog 148 [(Sl.val x0), (Sl.val x1)] H fun e H' => in1 .sl e qm (fun r0 => k r0 H')
def qat (x0 : Sl) (H : AH) (k : Sl → AH → Prop) : Prop :=
 qf Tryz.prog 149 [(Sl.val x0)] H fun e H' => in1 .sl e qm (fun r0 => k r0 H')
def qH (x0 : Option Addr) (x1 : Sl) (H : AH) (k : Int → AH → Prop) : Prop :=
 qf Tryz.prog 150 [(qkR x0), (Sl.val x1)] H fun e H' => in1 (.int .i64) e qm (fun r0 => k r0 H')
def qbi (x0 : Option Addr) (x1 : Int) (H : AH) (k : Bool → AH → Prop) : Prop :=
 qf Tryz.prog 178 [(qkR x0), (qkL .i64 x1)] H fun e H' => in1 .bool e qm (fun r0 => k r0 H')
def qa2 (x0 : Option Addr) (x1 : Int) (H : AH) (k : Int → AH → Prop) : Prop :=
 qf Tryz.prog 179 [(qkR x0), (qkL .i64 x1)] H fun e H' => in1 (.int .i64) e qm (fun r0 => k r0 H')
def qaa (x0 : Option Addr) (x1 : Int) (H : AH) (k : Int → Bool → AH → Prop) : Prop :=
 qf Tryz.prog 151 [(qkR x0), (qkL .i64 x1)] H fun e H' => in2 (.int .i64) .bool e qm (fun r0 r1 => k r0 r1 H')
def qx (x0 : Option Addr) (x1 : Sl) (x2 : Sl) (H : AH) (pk : Value → AH → Prop) (k : AH → Prop) : Prop :=
 qf Tryz.prog 114 [(qkR x0), (Sl.val x1), (Sl.val x2)] H fun e H' => in0  e (fun v => pk v H') (k H')
def qbD (x0 : Option Addr) (x1 : Int) (H : AH) (pk : Value → AH → Prop) (k : Int → AH → Prop) : Prop :=
 qf Tryz.prog 64 [(qkR x0), (qkL .i64 x1)] H fun e H' => in1 (.int .i64) e (fun v => pk v H') (fun r0 => k r0 H')
def qac (x0 : Sl) (H : AH) (k : Int → AH → Prop) : Prop :=
 qf Tryz.prog 181 [(Sl.val x0)] H fun e H' => in1 (.int .i64) e qm (fun r0 => k r0 H')
def qw (x0 : Sl) (x1 : Int) (H : AH) (k : Int → Int → Bool → AH → Prop) : Prop :=
 qf Tryz.prog 180 [(Sl.val x0), (qkL .i64 x1)] H fun e H' => in3 (.int .i64) (.int .i64) .bool e qm (fun r0 r1 r2 => k r0 r1 r2 H')
def qaQ (x0 : Sl) (x1 : Int) (H : AH) (k : List Value → Bool → AH → Prop) : Prop :=
 qf Tryz.prog 152 [(Sl.val x0), (qkL .i64 x1)] H fun e H' => in2 .agg .bool e qm (fun r0 r1 => k r0 r1 H')
def qb7 (x0 : Sl) (x1 : Int) (H : AH) (k : Sl → Int → AH → Prop) : Prop :=
 qf Tryz.prog 115 [(Sl.val x0), (qkL .i64 x1)] H fun e H' => in2 .sl (.int .i64) e qm (fun r0 r1 => k r0 r1 H')
def qbc (x0 : Option Addr) (H : AH) (pk : Value → AH → Prop) (k : Int → AH → Prop) : Prop :=
 qf Tryz.prog 69 [(qkR x0)] H fun e H' => in1 (.int .i64) e (fun v => pk v H') (fun r0 => k r0 H')
def qbQ (x0 : Option Addr) (x1 : Int) (H : AH) (pk : Value → AH → Prop) (k : AH → Prop) : Prop :=
 qf Tryz.prog 65 [(qkR x0), (qkL .i64 x1)] H fun e H' => in0  e (fun v => pk v H') (k H')
def qaY (x0 : List Value) (x1 : Option Addr) (x2 : Option Addr) (H : AH) (k : Bool → AH → Prop) : Prop :=
 qf Tryz.prog 193 [(qlQ (qlq x0)), (qkR x1), (qkR x2)] H fun e H' => in1 .bool e qm (fun r0 => k r0 H')
def qaZ (x0 : Sl) (x1 : Int) (x2 : Int) (H : AH) (k : Bool → AH → Prop) : Prop :=
 qf Tryz.prog 182 [(Sl.val x0), (qkL .i64 x1), (qkL .i64 x2)] H fun e H' => in1 .bool e qm (fun r0 => k r0 H')
def qbs (x0 : Sl) (x1 : Int) (x2 : Int) (H : AH) (k : Int → AH → Prop) : Prop :=
 qf Tryz.prog 153 [(Sl.val x0), (qkL .i64 x1), (qkL .i64 x2)] H fun e H' => in1 (.int .i64) e qm (fun r0 => k r0 H')
def qbt (x0 : Sl) (x1 : Int) (x2 : Int) (H : AH) (k : Bool → AH → Prop) : Prop :=
 qf Tryz.prog 183 [(Sl.val x0), (qkL .i64 x1), (qkL .i64 x2)] H fun e H' => in1 .bool e qm (fun r0 => k r0 H')
def qbr (x0 : Sl) (x1 : Int) (x2 : Int) (H : AH) (k : Sl → Bool → AH → Prop) : Prop :=
 qf Tryz.prog 154 [(Sl.val x0), (qkL .i64 x1), (qkL .i64 x2)] H fun e H' => in2 .sl .bool e qm (fun r0 r1 => k r0 r1 H')
def qb6 (x0 : Sl) (x1 : Int) (x2 : Int) (H : AH) (k : Sl → Int → AH → Prop) : Prop :=
 qf Tryz.prog 116 [(Sl.val x0), (qkL .i64 x1), (qkL .i64 x2)] H fun e H' => in2 .sl (.int .i64) e qm (fun r0 r1 => k r0 r1 H')
def qbP (x0 : Option Addr) (x1 : Int) (x2 : Int) (H : AH) (pk : Value → AH → Prop) (k : Sl → AH → Prop) : Prop :=
 qf Tryz.prog 66 [(qkR x0), (qkL .i64 x1), (qkL .i64 x2)] H fun e H' => in1 .sl e (fun v => pk v H') (fun r0 => k r0 H')
def qV (x0 : Sl) (x1 : Int) (x2 : Sl) (H : AH) (k : Sl → Bool → AH → Prop) : Prop :=
 qf Tryz.prog 155 [(Sl.val x0), (qkL .i64 x1), (Sl.val x2)] H fun e H' => in2 .sl .bool e qm (fun r0 r1 => k r0 r1 H')
def qbS (x0 : Sl) (x1 : Int) (x2 : Sl) (H : AH) (k : Sl → Int → AH → Prop) : Prop :=
 qf Tryz.prog 117 [(Sl.val x0), (qkL .i64 x1), (Sl.val x2)] H fun e H' => in2 .sl (.int .i64) e qm (fun r0 r1 => k r0 r1 H')
def qbB (x0 : Option Addr) (x1 : Int) (x2 : Sl) (H : AH) (pk : Value → AH → Prop) (k : AH → Prop) : Prop :=
 qf Tryz.prog 67 [(qkR x0), (qkL .i64 x1), (Sl.val x2)] H fun e H' => in0  e (fun v => pk v H') (k H')
def qak (x0 : Option Addr) (x1 : Int) (H : AH) (pk : Value → AH → Prop) (k : AH → Prop) : Prop :=
 qf Tryz.prog 68 [(qkR x0), (qkL .i64 x1)] H fun e H' => in0  e (fun v => pk v H') (k H')
def qq.l1 (x0 : Sl) (x1b0 : Option Addr) (x1b1 : Option Addr) (k : Int → AH → Prop) (t2 : Int × Int) (HL2 : AH) (it2 : (Int × Int) → AH → Prop) : Prop :=
 bcase (decide ((t2.2 : Int) < ((x0.n : Nat) : Int))) ((0 ≤ t2.2 ∧ t2.2 < ((x0.n : Nat) : Int)) ∧ onPtr x0.a fun a14 => ldA HL2 (qkN a14 (qkX t2.2 * 3)) 3 fun c15 => qaY c15 x1b0 x1b1 HL2 fun b16 H16 => bcase b16 (k t2.2 H16) (it2 (t2.1, (qkM .i64 (t2.2 + (1 : Int)))) H16)) (k (-1 : Int) HL2)
def qq.b (x0 : Sl) (x1b0 : Option Addr) (x1b1 : Option Addr) (H : AH) (k : Int → AH → Prop) : Prop :=
 loopT (qq.l1 x0 x1b0 x1b1 k) (((0 : Int), (0 : Int)) : Int × Int) H
def qq.ann : Ann := { keep := fun r => match r with | 2 => [(4, .int .i64), (8, .int .i64)] | _ => [], ord := fun r => match r with  | _ => [] }
theorem qq.link {x0 : Sl} {x1b0 : Option Addr} {x1b1 : Option Addr} {H : AH} {k : Int → AH → Prop} (h : qq.b x0 x1b0 x1b1 H k) : qq x0 x1b0 x1b1 H k := lk1 pan hT hm Tryz.func142 (by kernel_rfl) (A := qq.ann) (by kernel_rfl) (by simp) (by kernel_rfl) h
def qF.b (x0 : Sl) (x1b0 : Option Addr) (x1b1 : Option Addr) (H : AH) (k : Bool → AH → Prop) : Prop :=
 qq x0 x1b0 x1b1 H fun n7 H7 => k (decide ((n7 : Int) ≥ (0 : Int))) H7
theorem qF.link {x0 : Sl} {x1b0 : Option Addr} {x1b1 : Option Addr} {H : AH} {k : Bool → AH → Prop} (h : qF.b x0 x1b0 x1b1 H k) : qF x0 x1b0 x1b1 H k := lk1 pan hT hm Tryz.func192 (by kernel_rfl) (A := ann0) (by kernel_rfl) (by simp) (by kernel_rfl) h
def qu.l1 (x0 : Sl) (x1b0 : Option Addr) (k : Int → AH → Prop) (t2 : Int × Int) (HL2 : AH) (it2 : (Int × Int) → AH → Prop) : Prop :=
 bcase (decide ((t2.2 : Int) < ((x0.n : Nat) : Int))) ((0 ≤ t2.2 ∧ t2.2 < ((x0.n : Nat) : Int)) ∧ onPtr x0.a fun a14 => ldA HL2 (qkN a14 (qkX t2.2 * 3)) 3 fun c15 => qa8 c15 x1b0 HL2 fun b16 H16 => bcase b16 (k t2.2 H16) (it2 (t2.1, (qkM .i64 (t2.2 + (1 : Int)))) H16)) (k (-1 : Int) HL2)
def qu.b (x0 : Sl) (x1b0 : Option Addr) (H : AH) (k : Int → AH → Prop) : Prop :=
 loopT (qu.l1 x0 x1b0 k) (((0 : Int), (0 : Int)) : Int × Int) H
def qu.ann : Ann := { keep := fun r => match r with | 2 => [(4, .int .i64), (8, .int .i64)] | _ => [], ord := fun r => match r with  | _ => [] }
theorem qu.link {x0 : Sl} {x1b0 : Option Addr} {H : AH} {k : Int → AH → Prop} (h : qu.b x0 x1b0 H k) : qu x0 x1b0 H k := lk1 pan hT hm Tryz.func142 (by kernel_rfl) (A := qu.ann) (by kernel_rfl) (by simp) (by kernel_rfl) h
def qaK.b (x0 : Int) (x1 : Int) (x2 : Int) (x3 : Int) (H : AH) (k : List Value → AH → Prop) : Prop :=
 newC H ⟨[(qkL .i64 (0 : Int)), (qkL .i64 (0 : Int)), (qkL .i64 (0 : Int)), (qkL .i64 (0 : Int))], .rw, 0⟩ fun o8 H8 => ((24 : Int) : Int) ≠ 0 ∧ ((17 : Int) : Int) ≠ 0 ∧ ((30 : Int) : Int) ≠ 0 ∧ ((10 : Int) : Int) ≠ 0 ∧ (qk0 [(qkL .i64 (qkM .i64 ((1 : Int) + (qkM .i64 (qlM (qkM .u64 x0) (24 : Int)))))), (qkL .i64 (qkM .i64 (qlM (qkM .u64 x1) (17 : Int)))), (qkL .i64 (qkM .i64 ((1 : Int) + (qkM .i64 (qlM (qkM .u64 x2) (30 : Int)))))), (qkL .i64 (qkM .i64 ((1 : Int) + (qkM .i64 (qlM (qkM .u64 x3) (10 : Int))))))] = 4 ∧ qlo [(qkL .i64 (qkM .i64 ((1 : Int) + (qkM .i64 (qlM (qkM .u64 x0) (24 : Int)))))), (qkL .i64 (qkM .i64 (qlM (qkM .u64 x1) (17 : Int)))), (qkL .i64 (qkM .i64 ((1 : Int) + (qkM .i64 (qlM (qkM .u64 x2) (30 : Int)))))), (qkL .i64 (qkM .i64 ((1 : Int) + (qkM .i64 (qlM (qkM .u64 x3) (10 : Int))))))] qo = true) ∧ stC H8 ⟨o8, 0, none⟩ [(qkL .i64 (qkM .i64 ((1 : Int) + (qkM .i64 (qlM (qkM .u64 x0) (24 : Int)))))), (qkL .i64 (qkM .i64 (qlM (qkM .u64 x1) (17 : Int)))), (qkL .i64 (qkM .i64 ((1 : Int) + (qkM .i64 (qlM (qkM .u64 x2) (30 : Int)))))), (qkL .i64 (qkM .i64 ((1 : Int) + (qkM .i64 (qlM (qkM .u64 x3) (10 : Int))))))] fun Hs2 => ldA Hs2 ⟨o8, 0, none⟩ 4 fun r0 => k r0 Hs2
theorem qaK.link {x0 : Int} {x1 : Int} {x2 : Int} {x3 : Int} {H : AH} {k : List Value → AH → Prop} (h : qaK.b x0 x1 x2 x3 H k) : qaK x0 x1 x2 x3 H k := lk1 pan hT hm Tryz.func36 (by kernel_rfl) (A := ann0) (by kernel_rfl) (by simp) (by kernel_rfl) h
def qbq.b (x0 : List Value) (H : AH) (k : List Value → AH → Prop) : Prop :=
 newC H ⟨x0, .rw, 0⟩ fun o1 H1 => newC H1 ⟨[(qkL .i64 (0 : Int)), (qkL .i64 (0 : Int)), (qkL .i64 (0 : Int)), (qkL .i64 (0 : Int))], .rw, 0⟩ fun o2 H2 => elI .i64 (AH.cell? H2 (qkN ⟨o1, 0, none⟩ 0)) fun n4 => elI .i64 (AH.cell? H2 (qkN ⟨o1, 0, none⟩ 1)) fun n6 => elI .i64 (AH.cell? H2 (qkN ⟨o1, 0, none⟩ 2)) fun n8 => elI .i64 (AH.cell? H2 (qkN ⟨o1, 0, none⟩ 3)) fun n10 => qaK n4 n6 n8 n10 H2 fun c11 H11 => (qk0 c11 = 4 ∧ qlo c11 qo = true) ∧ stC H11 ⟨o2, 0, none⟩ c11 fun Hs2 => ldA Hs2 ⟨o2, 0, none⟩ 4 fun r0 => k r0 Hs2
theorem qbq.link {x0 : List Value} {H : AH} {k : List Value → AH → Prop} (h : qbq.b x0 H k) : qbq x0 H k := lk1 pan hT hm Tryz.func12 (by kernel_rfl) (A := ann0) (by kernel_rfl) (by simp) (by kernel_rfl) h
def qaM.b (x0 : List Value) (H : AH) (k : Bool → AH → Prop) : Prop :=
 newC H ⟨x0, .rw, 0⟩ fun o1 H1 => elI .i64 (AH.cell? H1 (qkN ⟨o1, 0, none⟩ 0)) fun n4 => bcase (decide ((n4 : Int) ≥ (1 : Int))) (elI .i64 (AH.cell? H1 (qkN ⟨o1, 0, none⟩ 0)) fun n8 => bcase (decide ((n8 : Int) ≤ (64 : Int))) (elI .i64 (AH.cell? H1 (qkN ⟨o1, 0, none⟩ 1)) fun n13 => bcase (decide ((n13 : Int) ≥ (0 : Int))) (elI .i64 (AH.cell? H1 (qkN ⟨o1, 0, none⟩ 1)) fun n18 => bcase (decide ((n18 : Int) ≤ (16 : Int))) (elI .i64 (AH.cell? H1 (qkN ⟨o1, 0, none⟩ 2)) fun n23 => bcase (decide ((n23 : Int) ≥ (1 : Int))) (elI .i64 (AH.cell? H1 (qkN ⟨o1, 0, none⟩ 2)) fun n28 => bcase (decide ((n28 : Int) ≤ (1000 : Int))) (elI .i64 (AH.cell? H1 (qkN ⟨o1, 0, none⟩ 3)) fun n33 => bcase (decide ((n33 : Int) ≥ (1 : Int))) (elI .i64 (AH.cell? H1 (qkN ⟨o1, 0, none⟩ 3)) fun n38 => k (decide ((n38 : Int) ≤ (100 : Int))) H1) (k false H1)) (k false H1)) (k false H1)) (k false H1)) (k false H1)) (k false H1)) (k false H1)
theorem qaM.link {x0 : List Value} {H : AH} {k : Bool → AH → Prop} (h : qaM.b x0 H k) : qaM x0 H k := lk1 pan hT hm Tryz.func48 (by kernel_rfl) (A := ann0) (by kernel_rfl) (by simp) (by kernel_rfl) h
def qa9.b (x0 : List Value) (H : AH) (k : Int → AH → Prop) : Prop :=
 newC H ⟨x0, .rw, 0⟩ fun o1 H1 => ldA H1 ⟨o1, 0, none⟩ 4 fun c3 => qaM c3 H1 fun b4 H4 => bcase (!b4) (k (0 : Int) H4) (elI .i64 (AH.cell? H4 (qkN ⟨o1, 0, none⟩ 0)) fun n7 => k (qkM .i64 ((16 : Int) + n7)) H4)
theorem qa9.link {x0 : List Value} {H : AH} {k : Int → AH → Prop} (h : qa9.b x0 H k) : qa9 x0 H k := lk1 pan hT hm Tryz.func49 (by kernel_rfl) (A := ann0) (by kernel_rfl) (by simp) (by kernel_rfl) h
def qaz.b (x0 : List Value) (H : AH) (k : Int → AH → Prop) : Prop :=
 newC H ⟨x0, .rw, 0⟩ fun o1 H1 => ldA H1 ⟨o1, 0, none⟩ 4 fun c3 => qaM c3 H1 fun b4 H4 => bcase (!b4) (k (0 : Int) H4) (ldA H4 ⟨o1, 0, none⟩ 4 fun c6 => elI .i64 (AH.cell? H4 (qkN ⟨o1, 0, none⟩ 1)) fun n10 => qa9 c6 H4 fun n7 H7 => AH.cell? H7 (qkN ⟨o1, 0, none⟩ 1) = some (qkL .i64 n10) ∧ k (qkM .i64 ((qkM .i64 (n7 + (1 : Int))) + n10)) H7)
def qaz.ann : Ann := { keep := fun r => match r with  | _ => [], ord := fun r => match r with | 3 => [0, 3, 4, 1, 2, 5, 6] | _ => [] }
theorem qaz.link {x0 : List Value} {H : AH} {k : Int → AH → Prop} (h : qaz.b x0 H k) : qaz x0 H k := lk1 pan hT hm Tryz.func15 (by kernel_rfl) (A := qaz.ann) (by kernel_rfl) (by simp) (by kernel_rfl) h
def nvm_New.l1 (x1 : Sl) (k : Option Addr → AH → Prop) (o16 : Nat) (s20 : Sl) (t5 : Int) (HL5 : AH) (it5 : (Int) → AH → Prop) : Prop :=
 bcase (decide ((t5 : Int) < ((s20.n : Nat) : Int))) (elL (AH.cell? HL5 (qkN ⟨o16, 0, none⟩ 0)) fun s28 => (0 ≤ t5 ∧ t5 < ((s28.n : Nat) : Int)) ∧ onPtr s28.a fun a30 => stC HL5 (qkN (qkN a30 (qkX t5 * 10)) 9) [(qkL .i64 (-1 : Int))] fun Hs2 => bcase (decide ((t5 : Int) < ((x1.n : Nat) : Int))) (elL (AH.cell? Hs2 (qkN ⟨o16, 0, none⟩ 0)) fun s39 => (0 ≤ t5 ∧ t5 < ((x1.n : Nat) : Int)) ∧ onPtr x1.a fun a43 => elI .i64 (AH.cell? Hs2 (qkN a43 (qkX t5 * 1))) fun n44 => (0 ≤ t5 ∧ t5 < ((s39.n : Nat) : Int)) ∧ onPtr s39.a fun a45 => stC Hs2 (qkN (qkN a45 (qkX t5 * 10)) 9) [(qkL .i64 n44)] fun Hs4 => it5 (qkM .i64 (t5 + (1 : Int))) Hs4) (it5 (qkM .i64 (t5 + (1 : Int))) Hs2)) (k (some ⟨o16, 0, none⟩) HL5)
def nvm_New.j2 (x0 : Int) (x1 : Sl) (H : AH) (k : Option Addr → AH → Prop) (x12 : Bool) : Prop :=
 bcase x12 (k none H) ((0 ≤ x0 ∧ x0 ≤ x0 ∧ x0 ≤ (lim : Int)) ∧ newC H ⟨zerosOf (qkX x0) [(qkL .u64 (0 : Int)), (qkL .u64 (0 : Int)), (qkL .u64 (0 : Int)), (qkL .u64 (0 : Int)), (qkL .u64 (0 : Int)), (qkL .u64 (0 : Int)), (qkL .u64 (0 : Int)), (qkL .u64 (0 : Int)), (qkL .i64 (0 : Int)), (qkL .i64 (0 : Int))], .rw, 10⟩ fun o14 H14 => newC H14 ⟨[(qk2 (some ⟨o14, 0, none⟩) (qkX x0) 1), (qkL .u64 (0 : Int)), (qkL .u64 (0 : Int)), (qkL .u64 (0 : Int)), (qkL .u64 (0 : Int)), (qkL .u64 (0 : Int)), (qkL .u64 (0 : Int)), (qkL .u64 (0 : Int)), (qkL .u64 (0 : Int)), (qkL .u64 (0 : Int)), (qkL .u64 (0 : Int)), (qkL .u64 (0 : Int)), (qkL .u64 (0 : Int)), (qkL .u64 (0 : Int)), (qkL .u64 (0 : Int)), (qkL .u64 (0 : Int)), (qkL .u64 (0 : Int)), (qkL .u64 (0 : Int)), (qkL .u64 (0 : Int)), (qkL .u64 (0 : Int)), (qkL .u64 (0 : Int)), (qkL .u64 (0 : Int)), (qkL .u64 (0 : Int)), (qkL .u64 (0 : Int)), (qkL .u64 (0 : Int)), (qkL .u64 (0 : Int)), (qkL .u64 (0 : Int)), (qkL .u64 (0 : Int)), (qkL .u64 (0 : Int)), (qkL .u64 (0 : Int)), (qkL .u64 (0 : Int)), (qkL .u64 (0 : Int)), (qkL .u64 (0 : Int)), (qkL .u64 (0 : Int)), (qkL .u64 (0 : Int)), (qkL .u64 (0 : Int)), (qkL .i64 (0 : Int)), (qkL .i64 (-1 : Int)), (qkL .i64 (0 : Int)), (qlK false)], .rw, 0⟩ fun o16 H16 => elL (AH.cell? H16 (qkN ⟨o16, 0, none⟩ 0)) fun s20 => loopT (nvm_New.l1 x1 k o16 s20) (((0 : Int)) : Int) H16)
def nvm_New.b (x0 : Int) (x1 : Sl) (H : AH) (k : Option Addr → AH → Prop) : Prop :=
 bcase (decide ((x0 : Int) < (1 : Int))) (nvm_New.j2 x0 x1 H k true) (nvm_New.j2 x0 x1 H k (decide ((x0 : Int) > (200 : Int))))
def nvm_New.ann : Ann := { keep := fun r => match r with | 5 => [(22, .int .i64)] | _ => [], ord := fun r => match r with | 9 => [0, 1, 2, 3, 4, 5, 6, 7, 8, 9, 10, 11] | _ => [] }
theorem nvm_New.link {x0 : Int} {x1 : Sl} {H : AH} {k : Option Addr → AH → Prop} (h : nvm_New.b x0 x1 H k) : nvm_New x0 x1 H k := lk1 pan hT hm Tryz.func14 (by kernel_rfl) (A := nvm_New.ann) (by kernel_rfl) (by simp) (by kernel_rfl) h
def qP.b (x0 : Option Addr) (H : AH) (k : Int → AH → Prop) : Prop :=
 bcase (qlj x0) (k (0 : Int) H) (onPtr x0 fun a6 => elL (AH.cell? H (qkN a6 0)) fun s8 => k ((s8.n : Nat) : Int) H)
theorem qP.link {x0 : Option Addr} {H : AH} {k : Int → AH → Prop} (h : qP.b x0 H k) : qP x0 H k := lk1 pan hT hm Tryz.func91 (by kernel_rfl) (A := ann0) (by kernel_rfl) (by simp) (by kernel_rfl) h
def qW.b (x0 : Option Addr) (H : AH) (k : Bool → AH → Prop) : Prop :=
 bcase (!(qlj x0)) (onPtr x0 fun a7 => elB (AH.cell? H (qkN a7 39)) fun b9 => k b9 H) (k false H)
theorem qW.link {x0 : Option Addr} {H : AH} {k : Bool → AH → Prop} (h : qW.b x0 H k) : qW x0 H k := lk1 pan hT hm Tryz.func38 (by kernel_rfl) (A := ann0) (by kernel_rfl) (by simp) (by kernel_rfl) h
def qbf.j1 (x0 : Option Addr) (k : Int → AH → Prop) (x5 : Bool) (Hj : AH) : Prop :=
 bcase x5 (k (1 : Int) Hj) (qW x0 Hj fun b18 H18 => bcase b18 (k (2 : Int) H18) (k (0 : Int) H18))
def qbf.b (x0 : Option Addr) (x1 : List Value) (H : AH) (k : Int → AH → Prop) : Prop :=
 newC H ⟨x1, .rw, 0⟩ fun o3 H3 => ldA H3 ⟨o3, 0, none⟩ 4 fun c6 => qaM c6 H3 fun b7 H7 => bcase (!b7) (qbf.j1 x0 k true H7) (ldA H7 ⟨o3, 0, none⟩ 4 fun c12 => qP x0 H7 fun n11 H11 => AH.row? H11 ⟨o3, 0, none⟩ 4 = some c12 ∧ qaz c12 H11 fun n13 H13 => qbf.j1 x0 k ((n11 : Int) != n13) H13)
def qbf.ann : Ann := { keep := fun r => match r with  | _ => [], ord := fun r => match r with | 1 => [0, 1, 2, 3, 4, 6, 5, 7, 8, 9, 10] | _ => [] }
theorem qbf.link {x0 : Option Addr} {x1 : List Value} {H : AH} {k : Int → AH → Prop} (h : qbf.b x0 x1 H k) : qbf x0 x1 H k := lk1 pan hT hm Tryz.func50 (by kernel_rfl) (A := qbf.ann) (by kernel_rfl) (by simp) (by kernel_rfl) h
def qaq.b (x0 : Option Addr) (x1 : Int) (H : AH) (k : Bool → AH → Prop) : Prop :=
 bcase (!(qlj x0)) (bcase (decide ((x1 : Int) ≥ (0 : Int))) (k (decide ((x1 : Int) < (35 : Int))) H) (k false H)) (k false H)
theorem qaq.link {x0 : Option Addr} {x1 : Int} {H : AH} {k : Bool → AH → Prop} (h : qaq.b x0 x1 H k) : qaq x0 x1 H k := lk1 pan hT hm Tryz.func92 (by kernel_rfl) (A := ann0) (by kernel_rfl) (by simp) (by kernel_rfl) h
def qE.b (x0 : Option Addr) (x1 : Int) (H : AH) (k : Int → Int → AH → Prop) : Prop :=
 qaq x0 x1 H fun b9 H9 => bcase (!b9) (k (0 : Int) (1 : Int) H9) (onPtr x0 fun a13 => elB (AH.cell? H9 (qkN a13 39)) fun b15 => bcase b15 (k (0 : Int) (2 : Int) H9) (onPtr x0 fun a18 => (0 ≤ x1 ∧ x1 < ((35 : Nat) : Int)) ∧ elI .u64 (AH.cell? H9 (qkN (qkN a18 1) (qkX x1 * 1))) fun n21 => k n21 (0 : Int) H9))
theorem qE.link {x0 : Option Addr} {x1 : Int} {H : AH} {k : Int → Int → AH → Prop} (h : qE.b x0 x1 H k) : qE x0 x1 H k := lk2 pan hT hm Tryz.func51 (by kernel_rfl) (A := ann0) (by kernel_rfl) (by simp) (by simp) (by kernel_rfl) h
def qD.j1 (x0 : Option Addr) (k : Sl → Int → AH → Prop) (t3 : Sl × Int × Sl × Int) (HL3 : AH) : Prop :=
 onPtr x0 fun a34 => elP (AH.cell? HL3 (qkN a34 0)) fun p36 => qW p36 HL3 fun b37 H37 => bcase b37 (k ⟨none, 0, 0⟩ (2 : Int) H37) (k t3.2.2.1 (0 : Int) H37)
def qD.l2 (x0 : Option Addr) (k : Sl → Int → AH → Prop) (n11 : Int) (t3 : Sl × Int × Sl × Int) (HL3 : AH) (it3 : (Sl × Int × Sl × Int) → AH → Prop) : Prop :=
 bcase (decide ((t3.2.2.2 : Int) < n11)) (onPtr x0 fun a17 => elP (AH.cell? HL3 (qkN a17 0)) fun p19 => qE p19 (qkM .i64 ((3 : Int) + t3.2.2.2)) HL3 fun n22a n22b H22 => bcase ((n22b : Int) != (0 : Int)) (k ⟨none, 0, 0⟩ n22b H22) (newC H22 ⟨[(qkL .u64 n22a)], .rw, 1⟩ fun o30 H30 => appendC 1 H30 t3.2.2.1 ⟨(some ⟨o30, 0, none⟩), 1, 1⟩ fun s31 H31 => it3 (t3.1, t3.2.1, s31, (qkM .i64 (t3.2.2.2 + (1 : Int)))) H31)) (qD.j1 x0 k t3 HL3)
def qD.b (x0 : Option Addr) (H : AH) (k : Sl → Int → AH → Prop) : Prop :=
 onPtr x0 fun a9 => elI .i64 (AH.cell? H (qkN a9 2)) fun n11 => loopT (qD.l2 x0 k n11) ((⟨none, 0, 0⟩, (0 : Int), ⟨none, 0, 0⟩, (0 : Int)) : Sl × Int × Sl × Int) H
def qD.ann : Ann := { keep := fun r => match r with | 3 => [(2, .sl), (3, .int .i64), (4, .sl), (12, .int .i64)] | _ => [], ord := fun r => match r with  | _ => [] }
theorem qD.link {x0 : Option Addr} {H : AH} {k : Sl → Int → AH → Prop} (h : qD.b x0 H k) : qD x0 H k := lk2 pan hT hm Tryz.func158 (by kernel_rfl) (A := qD.ann) (by kernel_rfl) (by simp) (by simp) (by kernel_rfl) h
def qbK.b (x0 : Int) (H : AH) (k : Int → AH → Prop) : Prop :=
 bcase (decide ((x0 : Int) < (1 : Int))) (k (0 : Int) H) (k (qkM .u64 ((qkM .u64 x0) + (1 : Int))) H)
theorem qbK.link {x0 : Int} {H : AH} {k : Int → AH → Prop} (h : qbK.b x0 H k) : qbK x0 H k := lk1 pan hT hm Tryz.func140 (by kernel_rfl) (A := ann0) (by kernel_rfl) (by simp) (by kernel_rfl) h
def qaA.j1 (k : Bool → AH → Prop) (t2 : Bool × Int) (it2 : (Bool × Int) → AH → Prop) (H16 : AH) (x33 : Bool) : Prop :=
 bcase x33 (k false H16) (it2 (t2.1, (qkM .i64 (t2.2 + (1 : Int)))) H16)
def qaA.l2 (x0 : Sl) (x1 : Int) (k : Bool → AH → Prop) (t2 : Bool × Int) (HL2 : AH) (it2 : (Bool × Int) → AH → Prop) : Prop :=
 bcase (decide ((t2.2 : Int) < ((x0.n : Nat) : Int))) ((0 ≤ t2.2 ∧ t2.2 < ((x0.n : Nat) : Int)) ∧ onPtr x0.a fun a12 => elI .u64 (AH.cell? HL2 (qkN a12 (qkX t2.2 * 1))) fun n13 => qbK x1 HL2 fun n16 H16 => bcase (decide ((n13 : Int) > n16)) (qaA.j1 k t2 it2 H16 true) (bcase (decide ((t2.2 : Int) > (0 : Int))) (bcase ((n13 : Int) != (0 : Int)) ((0 ≤ (qkM .i64 (t2.2 - (1 : Int))) ∧ (qkM .i64 (t2.2 - (1 : Int))) < ((x0.n : Nat) : Int)) ∧ onPtr x0.a fun a29 => elI .u64 (AH.cell? H16 (qkN a29 (qkX (qkM .i64 (t2.2 - (1 : Int))) * 1))) fun n30 => qaA.j1 k t2 it2 H16 ((n30 : Int) == (0 : Int))) (qaA.j1 k t2 it2 H16 false)) (qaA.j1 k t2 it2 H16 false))) (k (decide ((x1 : Int) ≥ (1 : Int))) HL2)
def qaA.b (x0 : Sl) (x1 : Int) (H : AH) (k : Bool → AH → Prop) : Prop :=
 loopT (qaA.l2 x0 x1 k) ((false, (0 : Int)) : Bool × Int) H
def qaA.ann : Ann := { keep := fun r => match r with | 2 => [(4, .bool), (9, .int .i64)] | _ => [], ord := fun r => match r with  | _ => [] }
theorem qaA.link {x0 : Sl} {x1 : Int} {H : AH} {k : Bool → AH → Prop} (h : qaA.b x0 x1 H k) : qaA x0 x1 H k := lk1 pan hT hm Tryz.func169 (by kernel_rfl) (A := qaA.ann) (by kernel_rfl) (by simp) (by kernel_rfl) h
def qax.j1 (x0 : Option Addr) (x1 : Int) (x2 : Int) (k : Option Addr → AH → Prop) (x31 : Bool) (Hj : AH) : Prop :=
 bcase x31 (k none Hj) (newC Hj ⟨[(qkR x0), (qkL .i64 x1), (qkL .i64 x2)], .rw, 0⟩ fun o36 H36 => qD (some ⟨o36, 0, none⟩) H36 fun s39a n39b H39 => bcase ((n39b : Int) != (0 : Int)) (k none H39) (qaA s39a x1 H39 fun b47 H47 => bcase (!b47) (k none H47) (k (some ⟨o36, 0, none⟩) H47)))
def qax.b (x0 : Option Addr) (x1 : Int) (x2 : Int) (H : AH) (k : Option Addr → AH → Prop) : Prop :=
 bcase (qlj x0) (qax.j1 x0 x1 x2 k true H) (bcase (decide ((x1 : Int) < (1 : Int))) (qax.j1 x0 x1 x2 k true H) (bcase (decide ((x2 : Int) < (0 : Int))) (qax.j1 x0 x1 x2 k true H) (bcase (decide ((x2 : Int) > (16 : Int))) (qax.j1 x0 x1 x2 k true H) (qP x0 H fun n26 H26 => qax.j1 x0 x1 x2 k (((qkM .i64 (n26 - x2)) : Int) != x1) H26))))
theorem qax.link {x0 : Option Addr} {x1 : Int} {x2 : Int} {H : AH} {k : Option Addr → AH → Prop} (h : qax.b x0 x1 x2 H k) : qax x0 x1 x2 H k := lk1 pan hT hm Tryz.func131 (by kernel_rfl) (A := ann0) (by kernel_rfl) (by simp) (by kernel_rfl) h
def qaN.j1 (x0 : Option Addr) (x1 : Int) (x3 : Int) (k : Option Addr → AH → Prop) (p32 : Option Addr) (H37 : AH) (x45 : Bool) : Prop :=
 bcase x45 (k none H37) (newC H37 ⟨[(qkR x0), (qkR p32), (qkL .i64 x1), (qkL .i64 x3), (qkL .i64 (0 : Int))], .rw, 0⟩ fun o51 H51 => k (some ⟨o51, 0, none⟩) H51)
def qaN.j2 (x0 : Option Addr) (x1 : Int) (x2 : Int) (x3 : Int) (k : Option Addr → AH → Prop) (x27 : Bool) (Hj : AH) : Prop :=
 bcase x27 (k none Hj) (qax x0 (qkM .i64 (x1 + (1 : Int))) x2 Hj fun p32 H32 => bcase (qlj p32) (k none H32) (qE x0 (0 : Int) H32 fun n37a n37b H37 => bcase ((n37b : Int) != (0 : Int)) (qaN.j1 x0 x1 x3 k p32 H37 true) (qaN.j1 x0 x1 x3 k p32 H37 (decide ((n37a : Int) > (1099511627776 : Int))))))
def qaN.b (x0 : Option Addr) (x1 : Int) (x2 : Int) (x3 : Int) (H : AH) (k : Option Addr → AH → Prop) : Prop :=
 bcase (decide ((x1 : Int) < (1 : Int))) (qaN.j2 x0 x1 x2 x3 k true H) (qP x0 H fun n17 H17 => bcase (decide ((x1 : Int) > n17)) (qaN.j2 x0 x1 x2 x3 k true H17) (bcase (decide ((x3 : Int) < (1 : Int))) (qaN.j2 x0 x1 x2 x3 k true H17) (qaN.j2 x0 x1 x2 x3 k (decide ((x3 : Int) > (1000 : Int))) H17)))
theorem qaN.link {x0 : Option Addr} {x1 : Int} {x2 : Int} {x3 : Int} {H : AH} {k : Option Addr → AH → Prop} (h : qaN.b x0 x1 x2 x3 H k) : qaN x0 x1 x2 x3 H k := lk1 pan hT hm Tryz.func93 (by kernel_rfl) (A := ann0) (by kernel_rfl) (by simp) (by kernel_rfl) h
def qbj.b (x0 : Option Addr) (x1 : List Value) (H : AH) (k : Option Addr → AH → Prop) : Prop :=
 newC H ⟨x1, .rw, 0⟩ fun o3 H3 => ldA H3 ⟨o3, 0, none⟩ 4 fun c6 => elI .i64 (AH.cell? H3 (qkN ⟨o3, 0, none⟩ 1)) fun n9 => elI .i64 (AH.cell? H3 (qkN ⟨o3, 0, none⟩ 2)) fun n11 => qa9 c6 H3 fun n7 H7 => AH.cell? H7 (qkN ⟨o3, 0, none⟩ 2) = some (qkL .i64 n11) ∧ AH.cell? H7 (qkN ⟨o3, 0, none⟩ 1) = some (qkL .i64 n9) ∧ qaN x0 n7 n9 n11 H7 fun p12 H12 => k p12 H12
def qbj.ann : Ann := { keep := fun r => match r with  | _ => [], ord := fun r => match r with | 1 => [0, 1, 3, 4, 5, 6, 2, 7, 8] | _ => [] }
theorem qbj.link {x0 : Option Addr} {x1 : List Value} {H : AH} {k : Option Addr → AH → Prop} (h : qbj.b x0 x1 H k) : qbj x0 x1 H k := lk1 pan hT hm Tryz.func52 (by kernel_rfl) (A := qbj.ann) (by kernel_rfl) (by simp) (by kernel_rfl) h
def qb5.b (x0 : List Value) (H : AH) (k : Int → AH → Prop) : Prop :=
 newC H ⟨x0, .rw, 0⟩ fun o1 H1 => ldA H1 ⟨o1, 0, none⟩ 4 fun c3 => qaM c3 H1 fun b4 H4 => bcase (!b4) (k (0 : Int) H4) (elI .i64 (AH.cell? H4 (qkN ⟨o1, 0, none⟩ 0)) fun n7 => k (qkM .i64 (n7 * (8 : Int))) H4)
theorem qb5.link {x0 : List Value} {H : AH} {k : Int → AH → Prop} (h : qb5.b x0 H k) : qb5 x0 H k := lk1 pan hT hm Tryz.func42 (by kernel_rfl) (A := ann0) (by kernel_rfl) (by simp) (by kernel_rfl) h
def qaP.b (x0 : Int) (H : AH) (k : Bool → AH → Prop) : Prop :=
 bcase (decide ((x0 : Int) ≥ (8 : Int))) (bcase (decide ((x0 : Int) ≤ (512 : Int))) (((8 : Int) : Int) ≠ 0 ∧ k (((qlM x0 (8 : Int)) : Int) == (0 : Int)) H) (k false H)) (k false H)
theorem qaP.link {x0 : Int} {H : AH} {k : Bool → AH → Prop} (h : qaP.b x0 H k) : qaP x0 H k := lk1 pan hT hm Tryz.func94 (by kernel_rfl) (A := ann0) (by kernel_rfl) (by simp) (by kernel_rfl) h
def qaW.b (x0 : Int) (H : AH) (k : Bool → AH → Prop) : Prop :=
 bcase (decide ((x0 : Int) ≥ (2 : Int))) (k (decide ((x0 : Int) ≤ (512 : Int))) H) (k false H)
theorem qaW.link {x0 : Int} {H : AH} {k : Bool → AH → Prop} (h : qaW.b x0 H k) : qaW x0 H k := lk1 pan hT hm Tryz.func129 (by kernel_rfl) (A := ann0) (by kernel_rfl) (by simp) (by kernel_rfl) h
def qbk.b (x0 : Int) (x1 : Bool) (H : AH) (k : Int → AH → Prop) : Prop :=
 qaW x0 H fun b7 H7 => bcase (!b7) (k (0 : Int) H7) ((0 : Int) ≤ (1 : Int) ∧ bcase x1 (k (orI .u64 (shlI .u64 (qkM .u64 x0) (1 : Int)) (1 : Int)) H7) (k (shlI .u64 (qkM .u64 x0) (1 : Int)) H7))
theorem qbk.link {x0 : Int} {x1 : Bool} {H : AH} {k : Int → AH → Prop} (h : qbk.b x0 x1 H k) : qbk x0 x1 H k := lk1 pan hT hm Tryz.func95 (by kernel_rfl) (A := ann0) (by kernel_rfl) (by simp) (by kernel_rfl) h
def qbT.b (x0 : Int) (H : AH) (k : Sl → AH → Prop) : Prop :=
 qaP x0 H fun b5 H5 => bcase (!b5) (k ⟨none, 0, 0⟩ H5) ((0 ≤ x0 ∧ x0 ≤ x0 ∧ x0 ≤ (lim : Int)) ∧ newC H5 ⟨zerosOf (qkX x0) [(qkL .u64 (0 : Int))], .rw, 1⟩ fun o8 H8 => qbk x0 false H8 fun n11 H11 => (0 ≤ (0 : Int) ∧ (0 : Int) < (((qkX x0) : Nat) : Int)) ∧ stC H11 (qkN ⟨o8, 0, none⟩ (qkX (0 : Int) * 1)) [(qkL .u64 n11)] fun Hs2 => k ⟨(some ⟨o8, 0, none⟩), (qkX x0), 1⟩ Hs2)
theorem qbT.link {x0 : Int} {H : AH} {k : Sl → AH → Prop} (h : qbT.b x0 H k) : qbT x0 H k := lk1 pan hT hm Tryz.func53 (by kernel_rfl) (A := ann0) (by kernel_rfl) (by simp) (by kernel_rfl) h
def qa4.b (x0 : List Value) (x1 : Int) (H : AH) (k : Int → AH → Prop) : Prop :=
 newC H ⟨x0, .rw, 0⟩ fun o2 H2 => ldA H2 ⟨o2, 0, none⟩ 4 fun c5 => qaM c5 H2 fun b6 H6 => bcase (!b6) (k (-1 : Int) H6) (bcase (decide ((x1 : Int) < (0 : Int))) (k (-1 : Int) H6) (elI .i64 (AH.cell? H6 (qkN ⟨o2, 0, none⟩ 0)) fun n15 => bcase (decide ((x1 : Int) ≥ n15)) (k (-1 : Int) H6) (k (qkM .i64 ((16 : Int) + x1)) H6)))
theorem qa4.link {x0 : List Value} {x1 : Int} {H : AH} {k : Int → AH → Prop} (h : qa4.b x0 x1 H k) : qa4 x0 x1 H k := lk1 pan hT hm Tryz.func55 (by kernel_rfl) (A := ann0) (by kernel_rfl) (by simp) (by kernel_rfl) h
def qaD.j1 (x0 : Option Addr) (H : AH) (k : Int → AH → Prop) (x5 : Bool) : Prop :=
 bcase x5 (k (1 : Int) H) (onPtr x0 fun a22 => elP (AH.cell? H (qkN a22 0)) fun p24 => qW p24 H fun b25 H25 => bcase b25 (k (2 : Int) H25) (k (0 : Int) H25))
def qaD.b (x0 : Option Addr) (x1 : Int) (H : AH) (k : Int → AH → Prop) : Prop :=
 bcase (qlj x0) (qaD.j1 x0 H k true) (bcase (decide ((x1 : Int) < (0 : Int))) (qaD.j1 x0 H k true) (onPtr x0 fun a15 => elI .i64 (AH.cell? H (qkN a15 2)) fun n17 => qaD.j1 x0 H k (decide ((x1 : Int) ≥ n17))))
theorem qaD.link {x0 : Option Addr} {x1 : Int} {H : AH} {k : Int → AH → Prop} (h : qaD.b x0 x1 H k) : qaD x0 x1 H k := lk1 pan hT hm Tryz.func96 (by kernel_rfl) (A := ann0) (by kernel_rfl) (by simp) (by kernel_rfl) h
def qa1.b (x0 : Option Addr) (H : AH) (k : Int → AH → Prop) : Prop :=
 bcase (qlj x0) (k (0 : Int) H) (onPtr x0 fun a9 => elP (AH.cell? H (qkN a9 0)) fun p11 => qE p11 (0 : Int) H fun n12a n12b H12 => k (qkM .i64 n12a) H12)
theorem qa1.link {x0 : Option Addr} {H : AH} {k : Int → AH → Prop} (h : qa1.b x0 H k) : qa1 x0 H k := lk1 pan hT hm Tryz.func99 (by kernel_rfl) (A := ann0) (by kernel_rfl) (by simp) (by kernel_rfl) h
def gap_may.b (x0 : Int) (x1 : Int) (H : AH) (k : Bool → AH → Prop) : Prop :=
 bcase (decide ((x0 : Int) ≥ (1 : Int))) (bcase (decide ((x0 : Int) ≤ (100000 : Int))) (k (decide ((x1 : Int) ≥ (0 : Int))) H) (k false H)) (k false H)
theorem gap_may.link {x0 : Int} {x1 : Int} {H : AH} {k : Bool → AH → Prop} (h : gap_may.b x0 x1 H k) : gap_may x0 x1 H k := lk1 pan hT hm Tryz.func134 (by kernel_rfl) (A := ann0) (by kernel_rfl) (by simp) (by kernel_rfl) h
def qb3.b (x0 : Int) (x1 : Int) (H : AH) (k : Int → AH → Prop) : Prop :=
 ((qkM .i64 (x0 + (1 : Int))) : Int) ≠ 0 ∧ (x0 : Int) ≠ 0 ∧ k (qlM (qkM .i64 (qmc x1 (qkM .i64 (x0 + (1 : Int))))) x0) H
theorem qb3.link {x0 : Int} {x1 : Int} {H : AH} {k : Int → AH → Prop} (h : qb3.b x0 x1 H k) : qb3 x0 x1 H k := lk1 pan hT hm Tryz.func135 (by kernel_rfl) (A := ann0) (by kernel_rfl) (by simp) (by kernel_rfl) h
def gap_Gap.b (x0 : Int) (x1 : Int) (H : AH) (k : Int → AH → Prop) : Prop :=
 gap_may x0 x1 H fun b7 H7 => bcase (!b7) (k (-1 : Int) H7) (((qkM .i64 (x0 + (1 : Int))) : Int) ≠ 0 ∧ k (qkM .i64 (x0 - (qlM x1 (qkM .i64 (x0 + (1 : Int)))))) H7)
theorem gap_Gap.link {x0 : Int} {x1 : Int} {H : AH} {k : Int → AH → Prop} (h : gap_Gap.b x0 x1 H k) : gap_Gap x0 x1 H k := lk1 pan hT hm Tryz.func136 (by kernel_rfl) (A := ann0) (by kernel_rfl) (by simp) (by kernel_rfl) h
def qbn.j1 (x0 : Int) (x1 : Int) (x2 : Int) (k : Int → AH → Prop) (H10 : AH) (x20 : Bool) : Prop :=
 bcase x20 (k (-1 : Int) H10) (qb3 x0 x1 H10 fun n24 H24 => (x0 : Int) ≠ 0 ∧ gap_Gap x0 x1 H24 fun n31 H31 => bcase (decide (((qlM (qkM .i64 (x2 + n24)) x0) : Int) ≥ n31)) (k (qkM .i64 ((qlM (qkM .i64 (x2 + n24)) x0) + (1 : Int))) H31) (k (qlM (qkM .i64 (x2 + n24)) x0) H31))
def qbn.b (x0 : Int) (x1 : Int) (x2 : Int) (H : AH) (k : Int → AH → Prop) : Prop :=
 gap_may x0 x1 H fun b10 H10 => bcase (!b10) (qbn.j1 x0 x1 x2 k H10 true) (bcase (decide ((x2 : Int) < (0 : Int))) (qbn.j1 x0 x1 x2 k H10 true) (qbn.j1 x0 x1 x2 k H10 (decide ((x2 : Int) ≥ x0))))
theorem qbn.link {x0 : Int} {x1 : Int} {x2 : Int} {H : AH} {k : Int → AH → Prop} (h : qbn.b x0 x1 x2 H k) : qbn x0 x1 x2 H k := lk1 pan hT hm Tryz.func98 (by kernel_rfl) (A := ann0) (by kernel_rfl) (by simp) (by kernel_rfl) h
def qam.l1 (x0 : Sl) (x1 : Int) (x2 : Int) (k : Int → AH → Prop) (t4 : Int × Int) (HL4 : AH) (it4 : (Int × Int) → AH → Prop) : Prop :=
 bcase (decide ((t4.2 : Int) ≥ (0 : Int))) ((0 ≤ t4.2 ∧ t4.2 < ((x0.n : Nat) : Int)) ∧ onPtr x0.a fun a24 => elI .u64 (AH.cell? HL4 (qkN a24 (qkX t4.2 * 1))) fun n25 => bcase ((n25 : Int) == (qkM .u64 ((qkM .u64 x2) + (1 : Int)))) (k (qkM .i64 (x1 + t4.2)) HL4) (it4 (t4.1, (qkM .i64 (t4.2 - (1 : Int)))) HL4)) (k x2 HL4)
def qam.j2 (x0 : Sl) (x1 : Int) (x2 : Int) (H : AH) (k : Int → AH → Prop) (x14 : Bool) : Prop :=
 bcase x14 (k (-1 : Int) H) (loopT (qam.l1 x0 x1 x2 k) (((0 : Int), (qkM .i64 (((x0.n : Nat) : Int) - (1 : Int)))) : Int × Int) H)
def qam.b (x0 : Sl) (x1 : Int) (x2 : Int) (H : AH) (k : Int → AH → Prop) : Prop :=
 bcase (decide ((x2 : Int) < (0 : Int))) (qam.j2 x0 x1 x2 H k true) (qam.j2 x0 x1 x2 H k (decide ((x2 : Int) ≥ x1)))
def qam.ann : Ann := { keep := fun r => match r with | 4 => [(6, .int .i64), (7, .int .i64)] | _ => [], ord := fun r => match r with  | _ => [] }
theorem qam.link {x0 : Sl} {x1 : Int} {x2 : Int} {H : AH} {k : Int → AH → Prop} (h : qam.b x0 x1 x2 H k) : qam x0 x1 x2 H k := lk1 pan hT hm Tryz.func170 (by kernel_rfl) (A := qam.ann) (by kernel_rfl) (by simp) (by kernel_rfl) h
def qab.j1 (x0 : Option Addr) (x1 : Int) (H : AH) (k : Int → Sl → Int → AH → Prop) (x22 : Bool) : Prop :=
 bcase x22 (k (0 : Int) ⟨none, 0, 0⟩ (1 : Int) H) (qD x0 H fun s25a n25b H25 => onPtr x0 fun a30 => elI .i64 (AH.cell? H25 (qkN a30 1)) fun n32 => qam s25a n32 x1 H25 fun n34 H34 => k n34 s25a n25b H34)
def qab.b (x0 : Option Addr) (x1 : Int) (H : AH) (k : Int → Sl → Int → AH → Prop) : Prop :=
 bcase (qlj x0) (qab.j1 x0 x1 H k true) (bcase (decide ((x1 : Int) < (0 : Int))) (qab.j1 x0 x1 H k true) (onPtr x0 fun a18 => elI .i64 (AH.cell? H (qkN a18 1)) fun n20 => qab.j1 x0 x1 H k (decide ((x1 : Int) ≥ n20))))
theorem qab.link {x0 : Option Addr} {x1 : Int} {H : AH} {k : Int → Sl → Int → AH → Prop} (h : qab.b x0 x1 H k) : qab x0 x1 H k := lk3 pan hT hm Tryz.func132 (by kernel_rfl) (A := ann0) (by kernel_rfl) (by simp) (by simp) (by simp) (by kernel_rfl) h
def qaO.b (x0 : Option Addr) (x1 : Int) (H : AH) (k : Bool → AH → Prop) : Prop :=
 bcase (decide ((x1 : Int) ≥ (0 : Int))) (qP x0 H fun n10 H10 => k (decide ((x1 : Int) < n10)) H10) (k false H)
theorem qaO.link {x0 : Option Addr} {x1 : Int} {H : AH} {k : Bool → AH → Prop} (h : qaO.b x0 x1 H k) : qaO x0 x1 H k := lk1 pan hT hm Tryz.func171 (by kernel_rfl) (A := ann0) (by kernel_rfl) (by simp) (by kernel_rfl) h
def qba.b (x0 : Option Addr) (x1 : Int) (H : AH) (k : List Value → Int → AH → Prop) : Prop :=
 newC H ⟨[(qkL .u64 (0 : Int)), (qkL .u64 (0 : Int)), (qkL .u64 (0 : Int)), (qkL .u64 (0 : Int)), (qkL .u64 (0 : Int)), (qkL .u64 (0 : Int)), (qkL .u64 (0 : Int)), (qkL .u64 (0 : Int))], .rw, 0⟩ fun o4 H4 => qaO x0 x1 H4 fun b9 H9 => bcase (!b9) ((qk0 [(qkL .u64 (0 : Int)), (qkL .u64 (0 : Int)), (qkL .u64 (0 : Int)), (qkL .u64 (0 : Int)), (qkL .u64 (0 : Int)), (qkL .u64 (0 : Int)), (qkL .u64 (0 : Int)), (qkL .u64 (0 : Int))] = 8 ∧ qlo [(qkL .u64 (0 : Int)), (qkL .u64 (0 : Int)), (qkL .u64 (0 : Int)), (qkL .u64 (0 : Int)), (qkL .u64 (0 : Int)), (qkL .u64 (0 : Int)), (qkL .u64 (0 : Int)), (qkL .u64 (0 : Int))] qo = true) ∧ stC H9 ⟨o4, 0, none⟩ [(qkL .u64 (0 : Int)), (qkL .u64 (0 : Int)), (qkL .u64 (0 : Int)), (qkL .u64 (0 : Int)), (qkL .u64 (0 : Int)), (qkL .u64 (0 : Int)), (qkL .u64 (0 : Int)), (qkL .u64 (0 : Int))] fun Hs2 => ldA Hs2 ⟨o4, 0, none⟩ 8 fun r0 => k r0 (1 : Int) Hs2) (onPtr x0 fun a14 => elB (AH.cell? H9 (qkN a14 39)) fun b16 => bcase b16 ((qk0 [(qkL .u64 (0 : Int)), (qkL .u64 (0 : Int)), (qkL .u64 (0 : Int)), (qkL .u64 (0 : Int)), (qkL .u64 (0 : Int)), (qkL .u64 (0 : Int)), (qkL .u64 (0 : Int)), (qkL .u64 (0 : Int))] = 8 ∧ qlo [(qkL .u64 (0 : Int)), (qkL .u64 (0 : Int)), (qkL .u64 (0 : Int)), (qkL .u64 (0 : Int)), (qkL .u64 (0 : Int)), (qkL .u64 (0 : Int)), (qkL .u64 (0 : Int)), (qkL .u64 (0 : Int))] qo = true) ∧ stC H9 ⟨o4, 0, none⟩ [(qkL .u64 (0 : Int)), (qkL .u64 (0 : Int)), (qkL .u64 (0 : Int)), (qkL .u64 (0 : Int)), (qkL .u64 (0 : Int)), (qkL .u64 (0 : Int)), (qkL .u64 (0 : Int)), (qkL .u64 (0 : Int))] fun Hs4 => ldA Hs4 ⟨o4, 0, none⟩ 8 fun r0 => k r0 (2 : Int) Hs4) (onPtr x0 fun a19 => elL (AH.cell? H9 (qkN a19 0)) fun s21 => (0 ≤ x1 ∧ x1 < ((s21.n : Nat) : Int)) ∧ onPtr s21.a fun a23 => ldA H9 (qkN (qkN a23 (qkX x1 * 10)) 0) 8 fun c25 => (qk0 c25 = 8 ∧ qlo c25 qo = true) ∧ stC H9 ⟨o4, 0, none⟩ c25 fun Hs6 => ldA Hs6 ⟨o4, 0, none⟩ 8 fun r0 => k r0 (0 : Int) Hs6))
theorem qba.link {x0 : Option Addr} {x1 : Int} {H : AH} {k : List Value → Int → AH → Prop} (h : qba.b x0 x1 H k) : qba x0 x1 H k := lk2 pan hT hm Tryz.func133 (by kernel_rfl) (A := ann0) (by kernel_rfl) (by simp) (by simp) (by kernel_rfl) h
def qbl.b (x0 : Option Addr) (x1 : Int) (H : AH) (k : List Value → Int → AH → Prop) : Prop :=
 newC H ⟨[(qkL .u64 (0 : Int)), (qkL .u64 (0 : Int)), (qkL .u64 (0 : Int)), (qkL .u64 (0 : Int)), (qkL .u64 (0 : Int)), (qkL .u64 (0 : Int)), (qkL .u64 (0 : Int)), (qkL .u64 (0 : Int))], .rw, 0⟩ fun o4 H4 => qab x0 x1 H4 fun n12a s12b n12c H12 => bcase ((n12c : Int) != (0 : Int)) ((qk0 [(qkL .u64 (0 : Int)), (qkL .u64 (0 : Int)), (qkL .u64 (0 : Int)), (qkL .u64 (0 : Int)), (qkL .u64 (0 : Int)), (qkL .u64 (0 : Int)), (qkL .u64 (0 : Int)), (qkL .u64 (0 : Int))] = 8 ∧ qlo [(qkL .u64 (0 : Int)), (qkL .u64 (0 : Int)), (qkL .u64 (0 : Int)), (qkL .u64 (0 : Int)), (qkL .u64 (0 : Int)), (qkL .u64 (0 : Int)), (qkL .u64 (0 : Int)), (qkL .u64 (0 : Int))] qo = true) ∧ stC H12 ⟨o4, 0, none⟩ [(qkL .u64 (0 : Int)), (qkL .u64 (0 : Int)), (qkL .u64 (0 : Int)), (qkL .u64 (0 : Int)), (qkL .u64 (0 : Int)), (qkL .u64 (0 : Int)), (qkL .u64 (0 : Int)), (qkL .u64 (0 : Int))] fun Hs2 => ldA Hs2 ⟨o4, 0, none⟩ 8 fun r0 => k r0 n12c Hs2) (onPtr x0 fun a21 => elP (AH.cell? H12 (qkN a21 0)) fun p23 => qba p23 n12a H12 fun c25a n25b H25 => (qk0 c25a = 8 ∧ qlo c25a qo = true) ∧ stC H25 ⟨o4, 0, none⟩ c25a fun Hs4 => ldA Hs4 ⟨o4, 0, none⟩ 8 fun r0 => k r0 n25b Hs4)
theorem qbl.link {x0 : Option Addr} {x1 : Int} {H : AH} {k : List Value → Int → AH → Prop} (h : qbl.b x0 x1 H k) : qbl x0 x1 H k := lk2 pan hT hm Tryz.func97 (by kernel_rfl) (A := ann0) (by kernel_rfl) (by simp) (by simp) (by kernel_rfl) h
def qaE.b (x0 : Option Addr) (x1 : Int) (H : AH) (k : List Value → Int → AH → Prop) : Prop :=
 newC H ⟨[(qkL .u64 (0 : Int)), (qkL .u64 (0 : Int)), (qkL .u64 (0 : Int)), (qkL .u64 (0 : Int)), (qkL .u64 (0 : Int)), (qkL .u64 (0 : Int)), (qkL .u64 (0 : Int)), (qkL .u64 (0 : Int))], .rw, 0⟩ fun o4 H4 => qaD x0 x1 H4 fun n9 H9 => bcase ((n9 : Int) != (0 : Int)) ((qk0 [(qkL .u64 (0 : Int)), (qkL .u64 (0 : Int)), (qkL .u64 (0 : Int)), (qkL .u64 (0 : Int)), (qkL .u64 (0 : Int)), (qkL .u64 (0 : Int)), (qkL .u64 (0 : Int)), (qkL .u64 (0 : Int))] = 8 ∧ qlo [(qkL .u64 (0 : Int)), (qkL .u64 (0 : Int)), (qkL .u64 (0 : Int)), (qkL .u64 (0 : Int)), (qkL .u64 (0 : Int)), (qkL .u64 (0 : Int)), (qkL .u64 (0 : Int)), (qkL .u64 (0 : Int))] qo = true) ∧ stC H9 ⟨o4, 0, none⟩ [(qkL .u64 (0 : Int)), (qkL .u64 (0 : Int)), (qkL .u64 (0 : Int)), (qkL .u64 (0 : Int)), (qkL .u64 (0 : Int)), (qkL .u64 (0 : Int)), (qkL .u64 (0 : Int)), (qkL .u64 (0 : Int))] fun Hs2 => ldA Hs2 ⟨o4, 0, none⟩ 8 fun r0 => k r0 n9 Hs2) (onPtr x0 fun a15 => elP (AH.cell? H9 (qkN a15 1)) fun p17 => onPtr x0 fun a19 => elI .i64 (AH.cell? H9 (qkN a19 2)) fun n21 => qa1 x0 H9 fun n23 H23 => AH.cell? H23 (qkN a19 2) = some (qkL .i64 n21) ∧ AH.cell? H23 (qkN a15 1) = some (qkR p17) ∧ qbn n21 n23 x1 H23 fun n25 H25 => AH.cell? H25 (qkN a15 1) = some (qkR p17) ∧ qbl p17 n25 H25 fun c26a n26b H26 => (qk0 c26a = 8 ∧ qlo c26a qo = true) ∧ stC H26 ⟨o4, 0, none⟩ c26a fun Hs4 => ldA Hs4 ⟨o4, 0, none⟩ 8 fun r0 => k r0 n26b Hs4)
def qaE.ann : Ann := { keep := fun r => match r with  | _ => [], ord := fun r => match r with | 4 => [0, 1, 2, 3, 4, 5, 6, 7, 8, 10, 9, 11, 12, 13, 14, 15, 16] | _ => [] }
theorem qaE.link {x0 : Option Addr} {x1 : Int} {H : AH} {k : List Value → Int → AH → Prop} (h : qaE.b x0 x1 H k) : qaE x0 x1 H k := lk2 pan hT hm Tryz.func54 (by kernel_rfl) (A := qaE.ann) (by kernel_rfl) (by simp) (by simp) (by kernel_rfl) h
def qaU.b (x0 : Sl) (x1 : Int) (H : AH) (k : List Value → AH → Prop) : Prop :=
 newC H ⟨[(qkL .u64 (0 : Int)), (qkL .u64 (0 : Int)), (qkL .u64 (0 : Int)), (qkL .u64 (0 : Int)), (qkL .u64 (0 : Int)), (qkL .u64 (0 : Int)), (qkL .u64 (0 : Int)), (qkL .u64 (0 : Int))], .rw, 0⟩ fun o4 H4 => newC H4 ⟨[(qkL .u64 (0 : Int)), (qkL .u64 (0 : Int)), (qkL .u64 (0 : Int)), (qkL .u64 (0 : Int)), (qkL .u64 (0 : Int)), (qkL .u64 (0 : Int)), (qkL .u64 (0 : Int)), (qkL .u64 (0 : Int))], .rw, 0⟩ fun o5 H5 => (0 ≤ (qkM .i64 (x1 * (8 : Int))) ∧ (qkM .i64 (x1 * (8 : Int))) ≤ ((x0.n : Nat) : Int)) ∧ copyC 1 H5 ⟨(some ⟨o5, 0, none⟩), 8, 0⟩ ⟨(Option.map (fun x => qkN x (qkX (qkM .i64 (x1 * (8 : Int))) * 1)) x0.a), (x0.n - qkX (qkM .i64 (x1 * (8 : Int)))), 0⟩ fun n11 H11 => ldA H11 ⟨o5, 0, none⟩ 8 fun c12 => (qk0 c12 = 8 ∧ qlo c12 qo = true) ∧ stC H11 ⟨o4, 0, none⟩ c12 fun Hs2 => ldA Hs2 ⟨o4, 0, none⟩ 8 fun r0 => k r0 Hs2
def qaU.ann : Ann := { keep := fun r => match r with  | _ => [], ord := fun r => match r with | 2 => [0, 1, 2, 3, 4, 5] | _ => [] }
theorem qaU.link {x0 : Sl} {x1 : Int} {H : AH} {k : List Value → AH → Prop} (h : qaU.b x0 x1 H k) : qaU x0 x1 H k := lk1 pan hT hm Tryz.func56 (by kernel_rfl) (A := qaU.ann) (by kernel_rfl) (by simp) (by kernel_rfl) h
def qcr.b (x0 : Int) (x1 : Int) (H : AH) (k : Int → Int → AH → Prop) : Prop :=
 gap_Gap x0 x1 H fun n8 H8 => bcase ((n8 : Int) == (-1 : Int)) (k (-1 : Int) (-1 : Int) H8) (bcase ((n8 : Int) == (0 : Int)) (k x0 (0 : Int) H8) (k (qkM .i64 (n8 - (1 : Int))) n8 H8))
theorem qcr.link {x0 : Int} {x1 : Int} {H : AH} {k : Int → Int → AH → Prop} (h : qcr.b x0 x1 H k) : qcr x0 x1 H k := lk2 pan hT hm Tryz.func137 (by kernel_rfl) (A := ann0) (by kernel_rfl) (by simp) (by simp) (by kernel_rfl) h
def qaw.b (x0 : Option Addr) (H : AH) (k : Int → AH → Prop) : Prop :=
 onPtr x0 fun a4 => elI .i64 (AH.cell? H (qkN a4 36)) fun n6 => onPtr x0 fun a8 => stC H (qkN a8 36) [(qkL .i64 (qkM .i64 (n6 + (1 : Int))))] fun Hs2 => onPtr x0 fun a12 => elI .i64 (AH.cell? Hs2 (qkN a12 37)) fun n14 => bcase ((n14 : Int) == (0 : Int)) (onPtr x0 fun a17 => stC Hs2 (qkN a17 39) [(qlK true)] fun Hs4 => onPtr x0 fun a20 => elI .i64 (AH.cell? Hs4 (qkN a20 38)) fun n22 => k n22 Hs4) (onPtr x0 fun a25 => elI .i64 (AH.cell? Hs2 (qkN a25 37)) fun n27 => bcase (decide ((n27 : Int) > (0 : Int))) (onPtr x0 fun a30 => elI .i64 (AH.cell? Hs2 (qkN a30 37)) fun n32 => onPtr x0 fun a34 => stC Hs2 (qkN a34 37) [(qkL .i64 (qkM .i64 (n32 - (1 : Int))))] fun Hs6 => k (-1 : Int) Hs6) (k (-1 : Int) Hs2))
theorem qaw.link {x0 : Option Addr} {H : AH} {k : Int → AH → Prop} (h : qaw.b x0 H k) : qaw x0 H k := lk1 pan hT hm Tryz.func156 (by kernel_rfl) (A := ann0) (by kernel_rfl) (by simp) (by kernel_rfl) h
def qbg.j1 (k : List Value → AH → Prop) (o3 : Nat) (o6 : Nat) (HL2 : AH) : Prop :=
 ldA HL2 ⟨o3, 0, none⟩ 8 fun c23 => (qk0 c23 = 8 ∧ qlo c23 qo = true) ∧ stC HL2 ⟨o6, 0, none⟩ c23 fun Hs2 => ldA Hs2 ⟨o6, 0, none⟩ 8 fun r0 => k r0 Hs2
def qbg.l2 (x2 : Int) (k : List Value → AH → Prop) (o3 : Nat) (o6 : Nat) (c9 : List Value) (t2 : Int) (HL2 : AH) (it2 : (Int) → AH → Prop) : Prop :=
 bcase (decide ((t2 : Int) < (8 : Int))) ((0 ≤ t2 ∧ t2 < ((8 : Nat) : Int)) ∧ elI .u64 ((c9)[(qkX t2 * 1)]?) fun n13 => (0 : Int) ≤ t2 ∧ bcase (((andI .i64 (shrI .i64 x2 t2) (1 : Int)) : Int) == (1 : Int)) ((0 ≤ t2 ∧ t2 < ((8 : Nat) : Int)) ∧ stC HL2 (qkN ⟨o3, 0, none⟩ (qkX t2 * 1)) [(qkL .u64 n13)] fun Hs4 => it2 (qkM .i64 (t2 + (1 : Int))) Hs4) (it2 (qkM .i64 (t2 + (1 : Int))) HL2)) (qbg.j1 k o3 o6 HL2)
def qbg.b (x0 : List Value) (x1 : List Value) (x2 : Int) (H : AH) (k : List Value → AH → Prop) : Prop :=
 newC H ⟨x0, .rw, 0⟩ fun o3 H3 => newC H3 ⟨x1, .rw, 0⟩ fun o4 H4 => newC H4 ⟨[(qkL .u64 (0 : Int)), (qkL .u64 (0 : Int)), (qkL .u64 (0 : Int)), (qkL .u64 (0 : Int)), (qkL .u64 (0 : Int)), (qkL .u64 (0 : Int)), (qkL .u64 (0 : Int)), (qkL .u64 (0 : Int))], .rw, 0⟩ fun o6 H6 => ldA H6 ⟨o4, 0, none⟩ 8 fun c9 => loopT (qbg.l2 x2 k o3 o6 c9) (((0 : Int)) : Int) H6
def qbg.ann : Ann := { keep := fun r => match r with | 2 => [(10, .int .i64)] | _ => [], ord := fun r => match r with  | _ => [] }
theorem qbg.link {x0 : List Value} {x1 : List Value} {x2 : Int} {H : AH} {k : List Value → AH → Prop} (h : qbg.b x0 x1 x2 H k) : qbg x0 x1 x2 H k := lk1 pan hT hm Tryz.func172 (by kernel_rfl) (A := qbg.ann) (by kernel_rfl) (by simp) (by kernel_rfl) h
def qan.b (x0 : Option Addr) (x1 : Bool) (H : AH) (k : Int → AH → Prop) : Prop :=
 onPtr x0 fun a7 => elB (AH.cell? H (qkN a7 39)) fun b9 => bcase b9 (k (2 : Int) H) (bcase x1 (k (3 : Int) H) (k (0 : Int) H))
theorem qan.link {x0 : Option Addr} {x1 : Bool} {H : AH} {k : Int → AH → Prop} (h : qan.b x0 x1 H k) : qan x0 x1 H k := lk1 pan hT hm Tryz.func157 (by kernel_rfl) (A := ann0) (by kernel_rfl) (by simp) (by kernel_rfl) h
def qK.j1 (x0 : Option Addr) (k : Int → AH → Prop) (x9 : Bool) (Hj : AH) : Prop :=
 qan x0 x9 Hj fun n65 H65 => k n65 H65
def qK.j2 (x0 : Option Addr) (x1 : Int) (k : Int → AH → Prop) (o5 : Nat) (H21 : AH) (n21 : Int) (a27 : Addr) (x9 : Bool) : Prop :=
 bcase (!x9) (ldA H21 (qkN (qkN a27 (qkX x1 * 10)) 0) 8 fun c50 => ldA H21 ⟨o5, 0, none⟩ 8 fun c51 => qbg c50 c51 n21 H21 fun c53 H53 => (qk0 c53 = 8 ∧ qlo c53 qo = true) ∧ stC H53 (qkN (qkN a27 (qkX x1 * 10)) 0) c53 fun Hs2 => elI .i64 (AH.cell? Hs2 (qkN (qkN a27 (qkX x1 * 10)) 8)) fun n59 => stC Hs2 (qkN (qkN a27 (qkX x1 * 10)) 8) [(qkL .i64 (qkM .i64 (n59 + (1 : Int))))] fun Hs4 => qK.j1 x0 k x9 Hs4) (qK.j1 x0 k x9 H21)
def qK.b (x0 : Option Addr) (x1 : Int) (x2 : List Value) (H : AH) (k : Int → AH → Prop) : Prop :=
 newC H ⟨x2, .rw, 0⟩ fun o5 H5 => qaO x0 x1 H5 fun b13 H13 => bcase (!b13) (k (1 : Int) H13) (onPtr x0 fun a17 => elB (AH.cell? H13 (qkN a17 39)) fun b19 => bcase b19 (k (2 : Int) H13) (qaw x0 H13 fun n21 H21 => onPtr x0 fun a23 => elL (AH.cell? H21 (qkN a23 0)) fun s25 => (0 ≤ x1 ∧ x1 < ((s25.n : Nat) : Int)) ∧ onPtr s25.a fun a27 => elI .i64 (AH.cell? H21 (qkN (qkN a27 (qkX x1 * 10)) 9)) fun n31 => bcase (decide ((n31 : Int) ≥ (0 : Int))) (elI .i64 (AH.cell? H21 (qkN (qkN a27 (qkX x1 * 10)) 8)) fun n37 => elI .i64 (AH.cell? H21 (qkN (qkN a27 (qkX x1 * 10)) 9)) fun n41 => qK.j2 x0 x1 k o5 H21 n21 a27 (decide ((n37 : Int) ≥ n41))) (qK.j2 x0 x1 k o5 H21 n21 a27 false)))
def qK.ann : Ann := { keep := fun r => match r with  | _ => [], ord := fun r => match r with | 7 => [0, 1, 2, 3, 4, 5, 6, 7, 8, 9, 10, 11, 12, 13, 14, 15, 16] | 9 => [0, 1, 2, 3, 4, 5, 6, 7, 8, 9, 10] | _ => [] }
theorem qK.link {x0 : Option Addr} {x1 : Int} {x2 : List Value} {H : AH} {k : Int → AH → Prop} (h : qK.b x0 x1 x2 H k) : qK x0 x1 x2 H k := lk1 pan hT hm Tryz.func138 (by kernel_rfl) (A := qK.ann) (by kernel_rfl) (by simp) (by kernel_rfl) h
def qa7.l1 (x0 : Sl) (k : Int → AH → Prop) (t2 : Int × Int) (HL2 : AH) (it2 : (Int × Int) → AH → Prop) : Prop :=
 bcase (decide ((t2.2 : Int) < ((x0.n : Nat) : Int))) ((0 ≤ t2.2 ∧ t2.2 < ((x0.n : Nat) : Int)) ∧ onPtr x0.a fun a10 => elI .u64 (AH.cell? HL2 (qkN a10 (qkX t2.2 * 1))) fun n11 => bcase ((n11 : Int) == (0 : Int)) (k t2.2 HL2) (it2 (t2.1, (qkM .i64 (t2.2 + (1 : Int)))) HL2)) (k (-1 : Int) HL2)
def qa7.b (x0 : Sl) (H : AH) (k : Int → AH → Prop) : Prop :=
 loopT (qa7.l1 x0 k) (((0 : Int), (0 : Int)) : Int × Int) H
def qa7.ann : Ann := { keep := fun r => match r with | 2 => [(2, .int .i64), (7, .int .i64)] | _ => [], ord := fun r => match r with  | _ => [] }
theorem qa7.link {x0 : Sl} {H : AH} {k : Int → AH → Prop} (h : qa7.b x0 H k) : qa7 x0 H k := lk1 pan hT hm Tryz.func139 (by kernel_rfl) (A := qa7.ann) (by kernel_rfl) (by simp) (by kernel_rfl) h
def qz.j1 (x0 : Option Addr) (k : Int → AH → Prop) (Hj : AH) : Prop :=
 qan x0 false Hj fun n28 H28 => k n28 H28
def qz.b (x0 : Option Addr) (x1 : Int) (x2 : Int) (H : AH) (k : Int → AH → Prop) : Prop :=
 qaq x0 x1 H fun b10 H10 => bcase (!b10) (k (1 : Int) H10) (onPtr x0 fun a14 => elB (AH.cell? H10 (qkN a14 39)) fun b16 => bcase b16 (k (2 : Int) H10) (qaw x0 H10 fun n18 H18 => bcase (((andI .i64 n18 (1 : Int)) : Int) == (1 : Int)) (onPtr x0 fun a24 => (0 ≤ x1 ∧ x1 < ((35 : Nat) : Int)) ∧ stC H18 (qkN (qkN a24 1) (qkX x1 * 1)) [(qkL .u64 x2)] fun Hs2 => qz.j1 x0 k Hs2) (qz.j1 x0 k H18)))
theorem qz.link {x0 : Option Addr} {x1 : Int} {x2 : Int} {H : AH} {k : Int → AH → Prop} (h : qz.b x0 x1 x2 H k) : qz x0 x1 x2 H k := lk1 pan hT hm Tryz.func118 (by kernel_rfl) (A := ann0) (by kernel_rfl) (by simp) (by kernel_rfl) h
def qaj.l1 (x0 : Option Addr) (x1 : Int) (k : Int → AH → Prop) (o5 : Nat) (t11 : Int × Int) (HL11 : AH) (it11 : (Int × Int) → AH → Prop) : Prop :=
 onPtr x0 fun a43 => elI .i64 (AH.cell? HL11 (qkN a43 2)) fun n45 => bcase (decide ((t11.2 : Int) < n45)) (onPtr x0 fun a53 => elP (AH.cell? HL11 (qkN a53 0)) fun p55 => onPtr x0 fun a57 => elI .i64 (AH.cell? HL11 (qkN a57 1)) fun n59 => ldA HL11 ⟨o5, 0, none⟩ 8 fun c62 => qK p55 (qkM .i64 (n59 + t11.2)) c62 HL11 fun n63 H63 => bcase ((n63 : Int) == (0 : Int)) (onPtr x0 fun a69 => elP (AH.cell? H63 (qkN a69 0)) fun p71 => qz p71 (qkM .i64 ((3 : Int) + t11.2)) (qkM .u64 ((qkM .u64 x1) + (1 : Int))) H63 fun n75 H75 => k n75 H75) (bcase ((n63 : Int) == (3 : Int)) (onPtr x0 fun a79 => elI .i64 (AH.cell? H63 (qkN a79 1)) fun n81 => qbK n81 H63 fun n82 H82 => onPtr x0 fun a84 => elP (AH.cell? H82 (qkN a84 0)) fun p86 => qz p86 (qkM .i64 ((3 : Int) + t11.2)) n82 H82 fun n90 H90 => bcase ((n90 : Int) != (0 : Int)) (k n90 H90) (it11 (t11.1, (qkM .i64 (t11.2 + (1 : Int)))) H90)) (k n63 H63))) (k (3 : Int) HL11)
def qaj.b (x0 : Option Addr) (x1 : Int) (x2 : List Value) (H : AH) (k : Int → AH → Prop) : Prop :=
 newC H ⟨x2, .rw, 0⟩ fun o5 H5 => qab x0 x1 H5 fun n19a s19b n19c H19 => bcase ((n19c : Int) != (0 : Int)) (k n19c H19) (onPtr x0 fun a27 => elP (AH.cell? H19 (qkN a27 0)) fun p29 => ldA H19 ⟨o5, 0, none⟩ 8 fun c31 => qK p29 n19a c31 H19 fun n32 H32 => bcase ((n32 : Int) != (3 : Int)) (k n32 H32) (qa7 s19b H32 fun n37 H37 => bcase (decide ((n37 : Int) < (0 : Int))) (k (3 : Int) H37) (loopT (qaj.l1 x0 x1 k o5) (((0 : Int), n37) : Int × Int) H37)))
def qaj.ann : Ann := { keep := fun r => match r with | 11 => [(6, .int .i64), (12, .int .i64)] | _ => [], ord := fun r => match r with | 4 => [0, 1, 2, 3, 4, 5, 6, 7] | 14 => [0, 1, 2, 3, 4, 5, 6, 7, 8, 9, 10, 11, 12] | _ => [] }
theorem qaj.link {x0 : Option Addr} {x1 : Int} {x2 : List Value} {H : AH} {k : Int → AH → Prop} (h : qaj.b x0 x1 x2 H k) : qaj x0 x1 x2 H k := lk1 pan hT hm Tryz.func101 (by kernel_rfl) (A := qaj.ann) (by kernel_rfl) (by simp) (by kernel_rfl) h
def qbb.b (x0 : Option Addr) (H : AH) (k : Int → AH → Prop) : Prop :=
 qa1 x0 H fun n10 H10 => onPtr x0 fun a13 => elI .i64 (AH.cell? H10 (qkN a13 2)) fun n15 => qcr n15 n10 H10 fun n17a n17b H17 => onPtr x0 fun a22 => elP (AH.cell? H17 (qkN a22 1)) fun p24 => qbl p24 n17a H17 fun c26a n26b H26 => newC H26 ⟨[(qkL .u64 (0 : Int)), (qkL .u64 (0 : Int)), (qkL .u64 (0 : Int)), (qkL .u64 (0 : Int)), (qkL .u64 (0 : Int)), (qkL .u64 (0 : Int)), (qkL .u64 (0 : Int)), (qkL .u64 (0 : Int))], .rw, 0⟩ fun o6 H6 => (qk0 c26a = 8 ∧ qlo c26a qo = true) ∧ stC H6 ⟨o6, 0, none⟩ c26a fun Hs2 => bcase ((n26b : Int) != (0 : Int)) (k n26b Hs2) (onPtr x0 fun a33 => elP (AH.cell? Hs2 (qkN a33 1)) fun p35 => ldA Hs2 ⟨o6, 0, none⟩ 8 fun c37 => qaj p35 n17b c37 Hs2 fun n38 H38 => bcase ((n38 : Int) != (0 : Int)) (k n38 H38) (onPtr x0 fun a43 => elP (AH.cell? H38 (qkN a43 0)) fun p45 => qz p45 (0 : Int) (qkM .u64 ((qkM .u64 n10) + (1 : Int))) H38 fun n49 H49 => k n49 H49))
def qbb.ann : Ann := { keep := fun r => match r with  | _ => [], ord := fun r => match r with | 6 => [0, 1, 2, 3, 4, 5, 6, 7] | _ => [] }
theorem qbb.link {x0 : Option Addr} {H : AH} {k : Int → AH → Prop} (h : qbb.b x0 H k) : qbb x0 H k := lk1 pan hT hm Tryz.func100 (by kernel_rfl) (A := qbb.ann) (by kernel_rfl) (by simp) (by kernel_rfl) h
def qal.j1 (x0 : Option Addr) (x1 : Int) (k : Int → AH → Prop) (o5 : Nat) (Hj : AH) : Prop :=
 onPtr x0 fun a40 => elP (AH.cell? Hj (qkN a40 1)) fun p42 => onPtr x0 fun a44 => elI .i64 (AH.cell? Hj (qkN a44 2)) fun n46 => ldA Hj ⟨o5, 0, none⟩ 8 fun c51 => qa1 x0 Hj fun n48 H48 => AH.row? H48 ⟨o5, 0, none⟩ 8 = some c51 ∧ AH.cell? H48 (qkN a44 2) = some (qkL .i64 n46) ∧ AH.cell? H48 (qkN a40 1) = some (qkR p42) ∧ qbn n46 n48 x1 H48 fun n50 H50 => AH.row? H50 ⟨o5, 0, none⟩ 8 = some c51 ∧ AH.cell? H50 (qkN a40 1) = some (qkR p42) ∧ qaj p42 n50 c51 H50 fun n52 H52 => k n52 H52
def qal.b (x0 : Option Addr) (x1 : Int) (x2 : List Value) (H : AH) (k : Int → AH → Prop) : Prop :=
 newC H ⟨x2, .rw, 0⟩ fun o5 H5 => qaD x0 x1 H5 fun n11 H11 => bcase ((n11 : Int) != (0 : Int)) (k n11 H11) (onPtr x0 fun a16 => elI .i64 (AH.cell? H11 (qkN a16 4)) fun n18 => onPtr x0 fun a20 => stC H11 (qkN a20 4) [(qkL .i64 (qkM .i64 (n18 + (1 : Int))))] fun Hs2 => onPtr x0 fun a23 => elI .i64 (AH.cell? Hs2 (qkN a23 4)) fun n25 => onPtr x0 fun a27 => elI .i64 (AH.cell? Hs2 (qkN a27 3)) fun n29 => bcase ((n25 : Int) == n29) (onPtr x0 fun a32 => stC Hs2 (qkN a32 4) [(qkL .i64 (0 : Int))] fun Hs4 => qbb x0 Hs4 fun n35 H35 => bcase ((n35 : Int) != (0 : Int)) (k n35 H35) (qal.j1 x0 x1 k o5 H35)) (qal.j1 x0 x1 k o5 Hs2))
def qal.ann : Ann := { keep := fun r => match r with  | _ => [], ord := fun r => match r with | 5 => [0, 1, 2, 3, 4, 5, 6, 7, 8] | 10 => [0, 1, 2, 3, 4, 5, 6, 7, 8, 10, 12, 9, 11, 13, 14] | _ => [] }
theorem qal.link {x0 : Option Addr} {x1 : Int} {x2 : List Value} {H : AH} {k : Int → AH → Prop} (h : qal.b x0 x1 x2 H k) : qal x0 x1 x2 H k := lk1 pan hT hm Tryz.func57 (by kernel_rfl) (A := qal.ann) (by kernel_rfl) (by simp) (by kernel_rfl) h
def qB.j1 (k : Int → AH → Prop) (t14 : Int × Int) (it14 : (Int × Int) → AH → Prop) (x13 : Int) (Hj : AH) : Prop :=
 bcase ((x13 : Int) != (0 : Int)) (k x13 Hj) (it14 (t14.1, (qkM .i64 (t14.2 + (1 : Int)))) Hj)
def qB.j2 (k : Int → AH → Prop) (o3 : Nat) (p34 : Option Addr) (s37 : Sl) (t14 : Int × Int) (it14 : (Int × Int) → AH → Prop) (n48b : Int) (x59 : Bool) (Hj : AH) : Prop :=
 bcase x59 (ldA Hj ⟨o3, 0, none⟩ 4 fun c61 => qa4 c61 t14.2 Hj fun n63 H63 => qaU s37 t14.2 H63 fun c66 H66 => qal p34 n63 c66 H66 fun n67 H67 => qB.j1 k t14 it14 n67 H67) (qB.j1 k t14 it14 n48b Hj)
def qB.l3 (k : Int → AH → Prop) (o3 : Nat) (p34 : Option Addr) (s37 : Sl) (n39 : Int) (t14 : Int × Int) (HL14 : AH) (it14 : (Int × Int) → AH → Prop) : Prop :=
 bcase (decide ((t14.2 : Int) < n39)) (ldA HL14 ⟨o3, 0, none⟩ 4 fun c45 => qa4 c45 t14.2 HL14 fun n47 H47 => qaE p34 n47 H47 fun c48a n48b H48 => newC H48 ⟨[(qkL .u64 (0 : Int)), (qkL .u64 (0 : Int)), (qkL .u64 (0 : Int)), (qkL .u64 (0 : Int)), (qkL .u64 (0 : Int)), (qkL .u64 (0 : Int)), (qkL .u64 (0 : Int)), (qkL .u64 (0 : Int))], .rw, 0⟩ fun o12 H12 => (qk0 c48a = 8 ∧ qlo c48a qo = true) ∧ stC H12 ⟨o12, 0, none⟩ c48a fun Hs2 => bcase ((n48b : Int) == (0 : Int)) (ldA Hs2 ⟨o12, 0, none⟩ 8 fun c54 => qaU s37 t14.2 Hs2 fun c57 H57 => AH.row? H57 ⟨o12, 0, none⟩ 8 = some c54 ∧ elO (eqCells (List.replicate 8 (K.int .u64)) c54 c57) fun e58 => qB.j2 k o3 p34 s37 t14 it14 n48b (!e58) H57) (qB.j2 k o3 p34 s37 t14 it14 n48b false Hs2)) (k (0 : Int) HL14)
def qB.j4 (x0 : Option Addr) (k : Int → AH → Prop) (o3 : Nat) (t5 : Int × Int) (HL5 : AH) : Prop :=
 ldA HL5 ⟨o3, 0, none⟩ 4 fun c33 => qbj x0 c33 HL5 fun p34 H34 => ldA H34 ⟨o3, 0, none⟩ 4 fun c35 => qb5 c35 H34 fun n36 H36 => qbT n36 H36 fun s37 H37 => elI .i64 (AH.cell? H37 (qkN ⟨o3, 0, none⟩ 0)) fun n39 => loopT (qB.l3 k o3 p34 s37 n39) ((t5.1, (0 : Int)) : Int × Int) H37
def qB.l5 (x0 : Option Addr) (k : Int → AH → Prop) (o3 : Nat) (t5 : Int × Int) (HL5 : AH) (it5 : (Int × Int) → AH → Prop) : Prop :=
 bcase (decide ((t5.2 : Int) < (35 : Int))) (qE x0 t5.2 HL5 fun n26a n26b H26 => bcase ((n26a : Int) != (0 : Int)) (k (5 : Int) H26) (it5 (t5.1, (qkM .i64 (t5.2 + (1 : Int)))) H26)) (qB.j4 x0 k o3 t5 HL5)
def qB.b (x0 : Option Addr) (x1 : List Value) (H : AH) (k : Int → AH → Prop) : Prop :=
 newC H ⟨x1, .rw, 0⟩ fun o3 H3 => ldA H3 ⟨o3, 0, none⟩ 4 fun c15 => qbf x0 c15 H3 fun n16 H16 => bcase ((n16 : Int) != (0 : Int)) (k n16 H16) (loopT (qB.l5 x0 k o3) (((0 : Int), (0 : Int)) : Int × Int) H16)
def qB.ann : Ann := { keep := fun r => match r with | 5 => [(4, .int .i64), (20, .int .i64)] | 14 => [(4, .int .i64), (40, .int .i64)] | _ => [], ord := fun r => match r with | 17 => [0, 1, 2, 3, 4, 5, 6, 7, 8] | _ => [] }
theorem qB.link {x0 : Option Addr} {x1 : List Value} {H : AH} {k : Int → AH → Prop} (h : qB.b x0 x1 H k) : qB x0 x1 H k := lk1 pan hT hm Tryz.func16 (by kernel_rfl) (A := qB.ann) (by kernel_rfl) (by simp) (by kernel_rfl) h
def qau.b (x0 : Option Addr) (H : AH) (k : Int → AH → Prop) : Prop :=
 bcase (qlj x0) (k (0 : Int) H) (onPtr x0 fun a6 => elI .i64 (AH.cell? H (qkN a6 2)) fun n8 => k n8 H)
theorem qau.link {x0 : Option Addr} {H : AH} {k : Int → AH → Prop} (h : qau.b x0 H k) : qau x0 H k := lk1 pan hT hm Tryz.func102 (by kernel_rfl) (A := ann0) (by kernel_rfl) (by simp) (by kernel_rfl) h
def log_New.j1 (x0 : Option Addr) (x1 : Option Addr) (k : Option Addr → AH → Prop) (x15 : Bool) (Hj : AH) : Prop :=
 bcase x15 (k none Hj) (newC Hj ⟨[(qkR x0), (qkR x1)], .rw, 0⟩ fun o19 H19 => k (some ⟨o19, 0, none⟩) H19)
def log_New.b (x0 : Option Addr) (x1 : Option Addr) (H : AH) (k : Option Addr → AH → Prop) : Prop :=
 bcase (qlj x0) (log_New.j1 x0 x1 k true H) (bcase (qlj x1) (log_New.j1 x0 x1 k true H) (qau x1 H fun n13 H13 => log_New.j1 x0 x1 k (decide ((n13 : Int) ≤ (16 : Int))) H13))
theorem log_New.link {x0 : Option Addr} {x1 : Option Addr} {H : AH} {k : Option Addr → AH → Prop} (h : log_New.b x0 x1 H k) : log_New x0 x1 H k := lk1 pan hT hm Tryz.func58 (by kernel_rfl) (A := ann0) (by kernel_rfl) (by simp) (by kernel_rfl) h
def qbY.b (x0 : Int) (H : AH) (k : Int → AH → Prop) : Prop :=
 ((8 : Int) : Int) ≠ 0 ∧ k (qkM .i64 (qmc (qkM .i64 ((qkM .i64 (x0 + (8 : Int))) - (1 : Int))) (8 : Int))) H
theorem qbY.link {x0 : Int} {H : AH} {k : Int → AH → Prop} (h : qbY.b x0 H k) : qbY x0 H k := lk1 pan hT hm Tryz.func141 (by kernel_rfl) (A := ann0) (by kernel_rfl) (by simp) (by kernel_rfl) h
def qZ.j1 (t8 : Sl × Int × Sl × Int) (it8 : (Sl × Int × Sl × Int) → AH → Prop) (o10 : Nat) (H71 : AH) (x11 : Int) : Prop :=
 ldA H71 ⟨o10, 0, none⟩ 8 fun c78 => (qk0 c78 = 8) ∧ (qk0 (setMany [(qkL .i64 x11), (qkL .u64 (0 : Int)), (qkL .u64 (0 : Int)), (qkL .u64 (0 : Int)), (qkL .u64 (0 : Int)), (qkL .u64 (0 : Int)), (qkL .u64 (0 : Int)), (qkL .u64 (0 : Int)), (qkL .u64 (0 : Int))] 1 c78) = 9) ∧ newC H71 ⟨(setMany [(qkL .i64 (0 : Int)), (qkL .u64 (0 : Int)), (qkL .u64 (0 : Int)), (qkL .u64 (0 : Int)), (qkL .u64 (0 : Int)), (qkL .u64 (0 : Int)), (qkL .u64 (0 : Int)), (qkL .u64 (0 : Int)), (qkL .u64 (0 : Int))] 0 (setMany [(qkL .i64 x11), (qkL .u64 (0 : Int)), (qkL .u64 (0 : Int)), (qkL .u64 (0 : Int)), (qkL .u64 (0 : Int)), (qkL .u64 (0 : Int)), (qkL .u64 (0 : Int)), (qkL .u64 (0 : Int)), (qkL .u64 (0 : Int))] 1 c78)), .rw, 9⟩ fun o80 H80 => appendC 9 H80 t8.2.2.1 ⟨(some ⟨o80, 0, none⟩), 1, 1⟩ fun s81 H81 => it8 (t8.1, t8.2.1, s81, (qkM .i64 (t8.2.2.2 + (1 : Int)))) H81
def qZ.l2 (x0 : Option Addr) (k : Sl → Int → AH → Prop) (n18a : Int) (t8 : Sl × Int × Sl × Int) (HL8 : AH) (it8 : (Sl × Int × Sl × Int) → AH → Prop) : Prop :=
 bcase (decide ((t8.2.2.2 : Int) < (qkM .i64 n18a))) (onPtr x0 fun a35 => elP (AH.cell? HL8 (qkN a35 1)) fun p37 => ((8 : Int) : Int) ≠ 0 ∧ qaE p37 (qkM .i64 (qmc t8.2.2.2 (8 : Int))) HL8 fun c40a n40b H40 => newC H40 ⟨[(qkL .u64 (0 : Int)), (qkL .u64 (0 : Int)), (qkL .u64 (0 : Int)), (qkL .u64 (0 : Int)), (qkL .u64 (0 : Int)), (qkL .u64 (0 : Int)), (qkL .u64 (0 : Int)), (qkL .u64 (0 : Int))], .rw, 0⟩ fun o8 H8 => (qk0 c40a = 8 ∧ qlo c40a qo = true) ∧ stC H8 ⟨o8, 0, none⟩ c40a fun Hs2 => bcase ((n40b : Int) != (0 : Int)) (k ⟨none, 0, 0⟩ n40b Hs2) (onPtr x0 fun a48 => elP (AH.cell? Hs2 (qkN a48 1)) fun p50 => newC Hs2 ⟨[(qkL .u64 (0 : Int)), (qkL .u64 (0 : Int)), (qkL .u64 (0 : Int)), (qkL .u64 (0 : Int)), (qkL .u64 (0 : Int)), (qkL .u64 (0 : Int)), (qkL .u64 (0 : Int)), (qkL .u64 (0 : Int))], .rw, 0⟩ fun o10 H10 => qbY (qkM .i64 n18a) H10 fun n53 H53 => AH.cell? H53 (qkN a48 1) = some (qkR p50) ∧ qaE p50 (qkM .i64 (n53 + t8.2.2.2)) H53 fun c56a n56b H56 => (qk0 c56a = 8 ∧ qlo c56a qo = true) ∧ stC H56 ⟨o10, 0, none⟩ c56a fun Hs4 => bcase ((n56b : Int) != (0 : Int)) (k ⟨none, 0, 0⟩ n56b Hs4) (((8 : Int) : Int) ≠ 0 ∧ (0 ≤ (qlM t8.2.2.2 (8 : Int)) ∧ (qlM t8.2.2.2 (8 : Int)) < ((8 : Nat) : Int)) ∧ elI .u64 (AH.cell? Hs4 (qkN ⟨o8, 0, none⟩ (qkX (qlM t8.2.2.2 (8 : Int)) * 1))) fun n65 => onPtr x0 fun a68 => elP (AH.cell? Hs4 (qkN a68 1)) fun p70 => qau p70 Hs4 fun n71 H71 => bcase (decide ((n65 : Int) < (qkM .u64 n71))) (qZ.j1 t8 it8 o10 H71 (qkM .i64 n65)) (qZ.j1 t8 it8 o10 H71 (-1 : Int))))) (k t8.2.2.1 (0 : Int) HL8)
def qZ.b (x0 : Option Addr) (H : AH) (k : Sl → Int → AH → Prop) : Prop :=
 onPtr x0 fun a15 => elP (AH.cell? H (qkN a15 0)) fun p17 => qE p17 (1 : Int) H fun n18a n18b H18 => bcase ((n18b : Int) != (0 : Int)) (k ⟨none, 0, 0⟩ n18b H18) (bcase (decide ((n18a : Int) > (14 : Int))) (k ⟨none, 0, 0⟩ (6 : Int) H18) (loopT (qZ.l2 x0 k n18a) ((⟨none, 0, 0⟩, (0 : Int), ⟨none, 0, 0⟩, (0 : Int)) : Sl × Int × Sl × Int) H18))
def qZ.ann : Ann := { keep := fun r => match r with | 8 => [(2, .sl), (3, .int .i64), (6, .sl), (30, .int .i64)] | _ => [], ord := fun r => match r with | 13 => [0, 1, 2, 3, 4, 5, 7, 13, 6, 8, 9, 10, 11, 12, 14, 15] | _ => [] }
theorem qZ.link {x0 : Option Addr} {H : AH} {k : Sl → Int → AH → Prop} (h : qZ.b x0 H k) : qZ x0 H k := lk2 pan hT hm Tryz.func103 (by kernel_rfl) (A := qZ.ann) (by kernel_rfl) (by simp) (by simp) (by kernel_rfl) h
def qae.j1 (x0 : Option Addr) (k : Int → AH → Prop) (HL2 : AH) : Prop :=
 onPtr x0 fun a31 => elP (AH.cell? HL2 (qkN a31 0)) fun p33 => qz p33 (1 : Int) (0 : Int) HL2 fun n34 H34 => k n34 H34
def qae.l2 (x0 : Option Addr) (x1 : Sl) (k : Int → AH → Prop) (t2 : Int × Int) (HL2 : AH) (it2 : (Int × Int) → AH → Prop) : Prop :=
 bcase (decide ((t2.2 : Int) < ((x1.n : Nat) : Int))) ((0 ≤ t2.2 ∧ t2.2 < ((x1.n : Nat) : Int)) ∧ onPtr x1.a fun a12 => ldA HL2 (qkN a12 (qkX t2.2 * 9)) 9 fun c13 => newC HL2 ⟨[(qkL .i64 (0 : Int)), (qkL .u64 (0 : Int)), (qkL .u64 (0 : Int)), (qkL .u64 (0 : Int)), (qkL .u64 (0 : Int)), (qkL .u64 (0 : Int)), (qkL .u64 (0 : Int)), (qkL .u64 (0 : Int)), (qkL .u64 (0 : Int))], .rw, 0⟩ fun o6 H6 => (qk0 c13 = 9 ∧ qlo c13 qo = true) ∧ stC H6 ⟨o6, 0, none⟩ c13 fun Hs2 => onPtr x0 fun a15 => elP (AH.cell? Hs2 (qkN a15 1)) fun p17 => elI .i64 (AH.cell? Hs2 (qkN ⟨o6, 0, none⟩ 0)) fun n19 => ldA Hs2 (qkN ⟨o6, 0, none⟩ 1) 8 fun c21 => qal p17 n19 c21 Hs2 fun n22 H22 => bcase ((n22 : Int) == (0 : Int)) (it2 (t2.1, (qkM .i64 (t2.2 + (1 : Int)))) H22) (bcase ((n22 : Int) == (3 : Int)) (k (0 : Int) H22) (k n22 H22))) (qae.j1 x0 k HL2)
def qae.b (x0 : Option Addr) (x1 : Sl) (H : AH) (k : Int → AH → Prop) : Prop :=
 loopT (qae.l2 x0 x1 k) (((0 : Int), (0 : Int)) : Int × Int) H
def qae.ann : Ann := { keep := fun r => match r with | 2 => [(4, .int .i64), (10, .int .i64)] | _ => [], ord := fun r => match r with | 4 => [0, 1, 2, 3, 4, 5, 6, 7, 8, 9] | _ => [] }
theorem qae.link {x0 : Option Addr} {x1 : Sl} {H : AH} {k : Int → AH → Prop} (h : qae.b x0 x1 H k) : qae x0 x1 H k := lk1 pan hT hm Tryz.func105 (by kernel_rfl) (A := qae.ann) (by kernel_rfl) (by simp) (by kernel_rfl) h
def qbC.b (x0 : Option Addr) (H : AH) (k : Int → AH → Prop) : Prop :=
 bcase (qlj x0) (k (1 : Int) H) (qZ x0 H fun s9a n9b H9 => bcase ((n9b : Int) != (0 : Int)) (k n9b H9) (bcase ((((s9a.n : Nat) : Int) : Int) == (0 : Int)) (k (0 : Int) H9) (onPtr x0 fun a22 => elP (AH.cell? H9 (qkN a22 1)) fun p24 => qau p24 H9 fun n25 H25 => log_May n25 s9a H25 fun b27 H27 => bcase (!b27) (k (6 : Int) H27) (qae x0 s9a H27 fun n31 H31 => k n31 H31))))
theorem qbC.link {x0 : Option Addr} {H : AH} {k : Int → AH → Prop} (h : qbC.b x0 H k) : qbC x0 H k := lk1 pan hT hm Tryz.func59 (by kernel_rfl) (A := ann0) (by kernel_rfl) (by simp) (by kernel_rfl) h
def qX.j1 (x0 : Option Addr) (x1 : Int) (k : List Value → Int → AH → Prop) (o4 : Nat) (x5 : Int) (Hj : AH) : Prop :=
 onPtr x0 fun a56 => elP (AH.cell? Hj (qkN a56 1)) fun p58 => qaE p58 x1 Hj fun c60a n60b H60 => (qk0 c60a = 8 ∧ qlo c60a qo = true) ∧ stC H60 ⟨o4, 0, none⟩ c60a fun Hs6 => ldA Hs6 ⟨o4, 0, none⟩ 8 fun r0 => k r0 n60b Hs6
def qX.l2 (x0 : Option Addr) (x1 : Int) (k : List Value → Int → AH → Prop) (o4 : Nat) (s28a : Sl) (t8 : Int × Int) (HL8 : AH) (it8 : (Int × Int) → AH → Prop) : Prop :=
 bcase (decide ((t8.2 : Int) < ((s28a.n : Nat) : Int))) ((0 ≤ t8.2 ∧ t8.2 < ((s28a.n : Nat) : Int)) ∧ onPtr s28a.a fun a46 => ldA HL8 (qkN a46 (qkX t8.2 * 9)) 9 fun c47 => newC HL8 ⟨[(qkL .i64 (0 : Int)), (qkL .u64 (0 : Int)), (qkL .u64 (0 : Int)), (qkL .u64 (0 : Int)), (qkL .u64 (0 : Int)), (qkL .u64 (0 : Int)), (qkL .u64 (0 : Int)), (qkL .u64 (0 : Int)), (qkL .u64 (0 : Int))], .rw, 0⟩ fun o9 H9 => (qk0 c47 = 9 ∧ qlo c47 qo = true) ∧ stC H9 ⟨o9, 0, none⟩ c47 fun Hs8 => elI .i64 (AH.cell? Hs8 (qkN ⟨o9, 0, none⟩ 0)) fun n49 => bcase ((n49 : Int) == x1) (ldA Hs8 (qkN ⟨o9, 0, none⟩ 1) 8 fun c53 => (qk0 c53 = 8 ∧ qlo c53 qo = true) ∧ stC Hs8 ⟨o4, 0, none⟩ c53 fun Hs10 => ldA Hs10 ⟨o4, 0, none⟩ 8 fun r0 => k r0 (0 : Int) Hs10) (it8 (t8.1, (qkM .i64 (t8.2 + (1 : Int)))) Hs8)) (qX.j1 x0 x1 k o4 t8.1 HL8)
def qX.j3 (x0 : Option Addr) (x1 : Int) (k : List Value → Int → AH → Prop) (o4 : Nat) (x24 : Bool) (Hj : AH) : Prop :=
 bcase x24 ((qk0 [(qkL .u64 (0 : Int)), (qkL .u64 (0 : Int)), (qkL .u64 (0 : Int)), (qkL .u64 (0 : Int)), (qkL .u64 (0 : Int)), (qkL .u64 (0 : Int)), (qkL .u64 (0 : Int)), (qkL .u64 (0 : Int))] = 8 ∧ qlo [(qkL .u64 (0 : Int)), (qkL .u64 (0 : Int)), (qkL .u64 (0 : Int)), (qkL .u64 (0 : Int)), (qkL .u64 (0 : Int)), (qkL .u64 (0 : Int)), (qkL .u64 (0 : Int)), (qkL .u64 (0 : Int))] qo = true) ∧ stC Hj ⟨o4, 0, none⟩ [(qkL .u64 (0 : Int)), (qkL .u64 (0 : Int)), (qkL .u64 (0 : Int)), (qkL .u64 (0 : Int)), (qkL .u64 (0 : Int)), (qkL .u64 (0 : Int)), (qkL .u64 (0 : Int)), (qkL .u64 (0 : Int))] fun Hs2 => ldA Hs2 ⟨o4, 0, none⟩ 8 fun r0 => k r0 (1 : Int) Hs2) (qZ x0 Hj fun s28a n28b H28 => bcase ((n28b : Int) == (2 : Int)) ((qk0 [(qkL .u64 (0 : Int)), (qkL .u64 (0 : Int)), (qkL .u64 (0 : Int)), (qkL .u64 (0 : Int)), (qkL .u64 (0 : Int)), (qkL .u64 (0 : Int)), (qkL .u64 (0 : Int)), (qkL .u64 (0 : Int))] = 8 ∧ qlo [(qkL .u64 (0 : Int)), (qkL .u64 (0 : Int)), (qkL .u64 (0 : Int)), (qkL .u64 (0 : Int)), (qkL .u64 (0 : Int)), (qkL .u64 (0 : Int)), (qkL .u64 (0 : Int)), (qkL .u64 (0 : Int))] qo = true) ∧ stC H28 ⟨o4, 0, none⟩ [(qkL .u64 (0 : Int)), (qkL .u64 (0 : Int)), (qkL .u64 (0 : Int)), (qkL .u64 (0 : Int)), (qkL .u64 (0 : Int)), (qkL .u64 (0 : Int)), (qkL .u64 (0 : Int)), (qkL .u64 (0 : Int))] fun Hs4 => ldA Hs4 ⟨o4, 0, none⟩ 8 fun r0 => k r0 n28b Hs4) (onPtr x0 fun a36 => elP (AH.cell? H28 (qkN a36 1)) fun p38 => qau p38 H28 fun n39 H39 => log_May n39 s28a H39 fun b41 H41 => bcase b41 (loopT (qX.l2 x0 x1 k o4 s28a) (((0 : Int), (0 : Int)) : Int × Int) H41) (qX.j1 x0 x1 k o4 (0 : Int) H41)))
def qX.b (x0 : Option Addr) (x1 : Int) (H : AH) (k : List Value → Int → AH → Prop) : Prop :=
 newC H ⟨[(qkL .u64 (0 : Int)), (qkL .u64 (0 : Int)), (qkL .u64 (0 : Int)), (qkL .u64 (0 : Int)), (qkL .u64 (0 : Int)), (qkL .u64 (0 : Int)), (qkL .u64 (0 : Int)), (qkL .u64 (0 : Int))], .rw, 0⟩ fun o4 H4 => bcase (qlj x0) (qX.j3 x0 x1 k o4 true H4) (bcase (decide ((x1 : Int) < (16 : Int))) (qX.j3 x0 x1 k o4 true H4) (onPtr x0 fun a19 => elP (AH.cell? H4 (qkN a19 1)) fun p21 => qau p21 H4 fun n22 H22 => qX.j3 x0 x1 k o4 (decide ((x1 : Int) ≥ n22)) H22))
def qX.ann : Ann := { keep := fun r => match r with | 8 => [(5, .int .i64), (44, .int .i64)] | _ => [], ord := fun r => match r with  | _ => [] }
theorem qX.link {x0 : Option Addr} {x1 : Int} {H : AH} {k : List Value → Int → AH → Prop} (h : qX.b x0 x1 H k) : qX x0 x1 H k := lk2 pan hT hm Tryz.func87 (by kernel_rfl) (A := qX.ann) (by kernel_rfl) (by simp) (by simp) (by kernel_rfl) h
def qS.l1 (x0 : Option Addr) (k : Sl → Int → AH → Prop) (n14 : Int) (t5 : Sl × Int × Sl × Int) (HL5 : AH) (it5 : (Sl × Int × Sl × Int) → AH → Prop) : Prop :=
 bcase (decide ((t5.2.2.2 : Int) < n14)) (onPtr x0 fun a20 => elP (AH.cell? HL5 (qkN a20 6)) fun p22 => onPtr x0 fun a24 => ldA HL5 (qkN a24 1) 4 fun c26 => newC HL5 ⟨[(qkL .u64 (0 : Int)), (qkL .u64 (0 : Int)), (qkL .u64 (0 : Int)), (qkL .u64 (0 : Int)), (qkL .u64 (0 : Int)), (qkL .u64 (0 : Int)), (qkL .u64 (0 : Int)), (qkL .u64 (0 : Int))], .rw, 0⟩ fun o6 H6 => qa4 c26 t5.2.2.2 H6 fun n28 H28 => AH.cell? H28 (qkN a20 6) = some (qkR p22) ∧ qX p22 n28 H28 fun c29a n29b H29 => (qk0 c29a = 8 ∧ qlo c29a qo = true) ∧ stC H29 ⟨o6, 0, none⟩ c29a fun Hs2 => bcase ((n29b : Int) != (0 : Int)) (k ⟨none, 0, 0⟩ n29b Hs2) (appendC 1 Hs2 t5.2.2.1 ⟨(some ⟨o6, 0, none⟩), 8, 0⟩ fun s37 H37 => it5 (t5.1, t5.2.1, s37, (qkM .i64 (t5.2.2.2 + (1 : Int)))) H37)) (k t5.2.2.1 (0 : Int) HL5)
def qS.b (x0 : Option Addr) (H : AH) (k : Sl → Int → AH → Prop) : Prop :=
 bcase (qlj x0) (k ⟨none, 0, 0⟩ (1 : Int) H) (onPtr x0 fun a11 => elI .i64 (AH.cell? H (qkN (qkN a11 1) 0)) fun n14 => loopT (qS.l1 x0 k n14) ((⟨none, 0, 0⟩, (0 : Int), ⟨none, 0, 0⟩, (0 : Int)) : Sl × Int × Sl × Int) H)
def qS.ann : Ann := { keep := fun r => match r with | 5 => [(2, .sl), (3, .int .i64), (4, .sl), (15, .int .i64)] | _ => [], ord := fun r => match r with | 7 => [0, 1, 2, 3, 4, 5, 6, 7, 8, 14, 9, 10, 11, 12, 13, 15, 16] | _ => [] }
theorem qS.link {x0 : Option Addr} {H : AH} {k : Sl → Int → AH → Prop} (h : qS.b x0 H k) : qS x0 H k := lk2 pan hT hm Tryz.func44 (by kernel_rfl) (A := qS.ann) (by kernel_rfl) (by simp) (by simp) (by kernel_rfl) h
def qa3.j1 (x0 : Int) (k : Int → Bool → Bool → AH → Prop) (x14 : Bool) (Hj : AH) : Prop :=
 bcase x14 (k (0 : Int) false false Hj) ((0 : Int) ≤ (1 : Int) ∧ k (qkM .i64 (shrI .u64 x0 (1 : Int))) (((andI .u64 x0 (1 : Int)) : Int) == (1 : Int)) true Hj)
def qa3.b (x0 : Int) (H : AH) (k : Int → Bool → Bool → AH → Prop) : Prop :=
 (0 : Int) ≤ (1 : Int) ∧ bcase (decide (((shrI .u64 x0 (1 : Int)) : Int) > (512 : Int))) (qa3.j1 x0 k true H) ((0 : Int) ≤ (1 : Int) ∧ qaW (qkM .i64 (shrI .u64 x0 (1 : Int))) H fun b12 H12 => qa3.j1 x0 k (!b12) H12)
theorem qa3.link {x0 : Int} {H : AH} {k : Int → Bool → Bool → AH → Prop} (h : qa3.b x0 H k) : qa3 x0 H k := lk3 pan hT hm Tryz.func88 (by kernel_rfl) (A := ann0) (by kernel_rfl) (by simp) (by simp) (by simp) (by kernel_rfl) h
def qQ.j1 (k : Bool → AH → Prop) (t5 : Bool × Int × Bool × Int) (it5 : (Bool × Int × Bool × Int) → AH → Prop) (o8 : Nat) (x43 : Bool) (Hj : AH) : Prop :=
 bcase x43 (k false Hj) (elI .i64 (AH.cell? Hj (qkN ⟨o8, 0, none⟩ 1)) fun n46 => elB (AH.cell? Hj (qkN ⟨o8, 0, none⟩ 2)) fun b49 => it5 (t5.1, (qkM .i64 (t5.2.1 + n46)), (!b49), (qkM .i64 (t5.2.2.2 + (1 : Int)))) Hj)
def qQ.l2 (x0 : Sl) (x1 : Int) (k : Bool → AH → Prop) (t5 : Bool × Int × Bool × Int) (HL5 : AH) (it5 : (Bool × Int × Bool × Int) → AH → Prop) : Prop :=
 bcase (decide ((t5.2.2.2 : Int) < ((x0.n : Nat) : Int))) ((0 ≤ t5.2.2.2 ∧ t5.2.2.2 < ((x0.n : Nat) : Int)) ∧ onPtr x0.a fun a16 => ldA HL5 (qkN a16 (qkX t5.2.2.2 * 3)) 3 fun c17 => newC HL5 ⟨[(qkL .i64 (0 : Int)), (qkL .i64 (0 : Int)), (qlK false)], .rw, 0⟩ fun o8 H8 => (qk0 c17 = 3 ∧ qlo c17 qo = true) ∧ stC H8 ⟨o8, 0, none⟩ c17 fun Hs2 => elI .i64 (AH.cell? Hs2 (qkN ⟨o8, 0, none⟩ 0)) fun n19 => bcase ((n19 : Int) != t5.2.1) (qQ.j1 k t5 it5 o8 true Hs2) (elI .i64 (AH.cell? Hs2 (qkN ⟨o8, 0, none⟩ 1)) fun n24 => qaW n24 Hs2 fun b25 H25 => bcase (!b25) (qQ.j1 k t5 it5 o8 true H25) (bcase t5.2.2.1 (elB (AH.cell? H25 (qkN ⟨o8, 0, none⟩ 2)) fun b32 => bcase (!b32) (qQ.j1 k t5 it5 o8 true H25) (elI .i64 (AH.cell? H25 (qkN ⟨o8, 0, none⟩ 1)) fun n38 => qQ.j1 k t5 it5 o8 (decide ((n38 : Int) > (qkM .i64 (x1 - t5.2.1)))) H25)) (elI .i64 (AH.cell? H25 (qkN ⟨o8, 0, none⟩ 1)) fun n38 => qQ.j1 k t5 it5 o8 (decide ((n38 : Int) > (qkM .i64 (x1 - t5.2.1)))) H25)))) (k ((t5.2.1 : Int) == x1) HL5)
def qQ.b (x0 : Sl) (x1 : Int) (H : AH) (k : Bool → AH → Prop) : Prop :=
 qaP x1 H fun b10 H10 => bcase (!b10) (k false H10) (loopT (qQ.l2 x0 x1 k) ((false, (0 : Int), false, (0 : Int)) : Bool × Int × Bool × Int) H10)
def qQ.ann : Ann := { keep := fun r => match r with | 5 => [(4, .bool), (5, .int .i64), (6, .bool), (14, .int .i64)] | _ => [], ord := fun r => match r with  | _ => [] }
theorem qQ.link {x0 : Sl} {x1 : Int} {H : AH} {k : Bool → AH → Prop} (h : qQ.b x0 x1 H k) : qQ x0 x1 H k := lk1 pan hT hm Tryz.func89 (by kernel_rfl) (A := qQ.ann) (by kernel_rfl) (by simp) (by kernel_rfl) h
def qI.j1 (x0 : Sl) (k : Sl → Bool → AH → Prop) (t3 : Sl × Bool × Sl × Int) (HL3 : AH) : Prop :=
 qQ t3.2.2.1 ((x0.n : Nat) : Int) HL3 fun b37 H37 => bcase (!b37) (k ⟨none, 0, 0⟩ false H37) (k t3.2.2.1 true H37)
def qI.l2 (x0 : Sl) (k : Sl → Bool → AH → Prop) (t3 : Sl × Bool × Sl × Int) (HL3 : AH) (it3 : (Sl × Bool × Sl × Int) → AH → Prop) : Prop :=
 bcase (decide ((t3.2.2.2 : Int) < ((x0.n : Nat) : Int))) ((0 ≤ t3.2.2.2 ∧ t3.2.2.2 < ((x0.n : Nat) : Int)) ∧ onPtr x0.a fun a16 => elI .u64 (AH.cell? HL3 (qkN a16 (qkX t3.2.2.2 * 1))) fun n17 => qa3 n17 HL3 fun n18a b18b b18c H18 => bcase (!b18c) (k ⟨none, 0, 0⟩ false H18) ((qk0 [(qkL .i64 t3.2.2.2), (qkL .i64 n18a), (qlK b18b)] = 3) ∧ newC H18 ⟨[(qkL .i64 t3.2.2.2), (qkL .i64 n18a), (qlK b18b)], .rw, 3⟩ fun o29 H29 => appendC 3 H29 t3.2.2.1 ⟨(some ⟨o29, 0, none⟩), 1, 1⟩ fun s30 H30 => it3 (t3.1, t3.2.1, s30, (qkM .i64 (t3.2.2.2 + n18a))) H30)) (qI.j1 x0 k t3 HL3)
def qI.b (x0 : Sl) (H : AH) (k : Sl → Bool → AH → Prop) : Prop :=
 loopT (qI.l2 x0 k) ((⟨none, 0, 0⟩, false, ⟨none, 0, 0⟩, (0 : Int)) : Sl × Bool × Sl × Int) H
def qI.ann : Ann := { keep := fun r => match r with | 3 => [(2, .sl), (3, .bool), (4, .sl), (5, .int .i64)] | _ => [], ord := fun r => match r with  | _ => [] }
theorem qI.link {x0 : Sl} {H : AH} {k : Sl → Bool → AH → Prop} (h : qI.b x0 H k) : qI x0 H k := lk2 pan hT hm Tryz.func45 (by kernel_rfl) (A := qI.ann) (by kernel_rfl) (by simp) (by simp) (by kernel_rfl) h
def qaV.j1 (k : Int → AH → Prop) (o1 : Nat) (H1 : AH) (x10 : Bool) : Prop :=
 bcase x10 (k (0 : Int) H1) (elI .i64 (AH.cell? H1 (qkN ⟨o1, 0, none⟩ 0)) fun n12 => k (qkM .i64 ((qkM .i64 (n12 + (1 : Int))) * (8 : Int))) H1)
def qaV.b (x0 : List Value) (H : AH) (k : Int → AH → Prop) : Prop :=
 newC H ⟨x0, .rw, 0⟩ fun o1 H1 => elI .i64 (AH.cell? H1 (qkN ⟨o1, 0, none⟩ 0)) fun n4 => bcase (decide ((n4 : Int) < (0 : Int))) (qaV.j1 k o1 H1 true) (elI .i64 (AH.cell? H1 (qkN ⟨o1, 0, none⟩ 0)) fun n8 => qaV.j1 k o1 H1 (decide ((n8 : Int) > (512 : Int))))
theorem qaV.link {x0 : List Value} {H : AH} {k : Int → AH → Prop} (h : qaV.b x0 H k) : qaV x0 H k := lk1 pan hT hm Tryz.func144 (by kernel_rfl) (A := ann0) (by kernel_rfl) (by simp) (by kernel_rfl) h
def qa8.b (x0 : List Value) (x1 : Option Addr) (H : AH) (k : Bool → AH → Prop) : Prop :=
 newC H ⟨x0, .rw, 0⟩ fun o2 H2 => elB (AH.cell? H2 (qkN ⟨o2, 0, none⟩ 2)) fun b5 => bcase b5 (ldA H2 ⟨o2, 0, none⟩ 3 fun c7 => onPtr x1 fun a9 => elI .i64 (AH.cell? H2 a9) fun n9 => qaV c7 H2 fun n8 H8 => AH.cell? H8 a9 = some (qkL .i64 n9) ∧ k ((n8 : Int) == n9) H8) (k false H2)
def qa8.ann : Ann := { keep := fun r => match r with  | _ => [], ord := fun r => match r with | 1 => [0, 1, 2, 3, 5, 4, 6, 7, 8] | _ => [] }
theorem qa8.link {x0 : List Value} {x1 : Option Addr} {H : AH} {k : Bool → AH → Prop} (h : qa8.b x0 x1 H k) : qa8 x0 x1 H k := lk1 pan hT hm Tryz.func143 (by kernel_rfl) (A := qa8.ann) (by kernel_rfl) (by simp) (by kernel_rfl) h
def qbH.b (x0 : Sl) (x1 : Int) (H : AH) (k : Sl → Int → AH → Prop) : Prop :=
 newC H ⟨[(qkL .i64 x1)], .rw, 0⟩ fun o3 H3 => qI x0 H3 fun s10a b10b H10 => qu s10a (some ⟨o3, 0, none⟩) H10 fun n16 H16 => k s10a n16 H16
theorem qbH.link {x0 : Sl} {x1 : Int} {H : AH} {k : Sl → Int → AH → Prop} (h : qbH.b x0 x1 H k) : qbH x0 x1 H k := lk2 pan hT hm Tryz.func106 (by kernel_rfl) (A := ann0) (by kernel_rfl) (by simp) (by simp) (by kernel_rfl) h
def qb1.b (x0 : Sl) (x1 : Int) (H : AH) (k : Bool → AH → Prop) : Prop :=
 qbH x0 x1 H fun s10a n10b H10 => k (decide ((n10b : Int) ≥ (0 : Int))) H10
theorem qb1.link {x0 : Sl} {x1 : Int} {H : AH} {k : Bool → AH → Prop} (h : qb1.b x0 x1 H k) : qb1 x0 x1 H k := lk1 pan hT hm Tryz.func60 (by kernel_rfl) (A := ann0) (by kernel_rfl) (by simp) (by kernel_rfl) h
def qbV.b (x0 : Int) (H : AH) (k : Int → AH → Prop) : Prop :=
 ((4 : Int) : Int) ≠ 0 ∧ k (qkM .i64 (qmc (if (0 : Int) > x0 then (0 : Int) else x0) (4 : Int))) H
theorem qbV.link {x0 : Int} {H : AH} {k : Int → AH → Prop} (h : qbV.b x0 H k) : qbV x0 H k := lk1 pan hT hm Tryz.func107 (by kernel_rfl) (A := ann0) (by kernel_rfl) (by simp) (by kernel_rfl) h
def qb2.b (x0 : List Value) (H : AH) (k : Int → AH → Prop) : Prop :=
 newC H ⟨x0, .rw, 0⟩ fun o1 H1 => ldA H1 ⟨o1, 0, none⟩ 4 fun c3 => qaM c3 H1 fun b4 H4 => bcase (!b4) (k (0 : Int) H4) (elI .i64 (AH.cell? H4 (qkN ⟨o1, 0, none⟩ 0)) fun n7 => qbV (qkM .i64 (n7 - (1 : Int))) H4 fun n9 H9 => k (qkM .i64 (n9 + (1 : Int))) H9)
theorem qb2.link {x0 : List Value} {H : AH} {k : Int → AH → Prop} (h : qb2.b x0 H k) : qb2 x0 H k := lk1 pan hT hm Tryz.func61 (by kernel_rfl) (A := ann0) (by kernel_rfl) (by simp) (by kernel_rfl) h
def qaI.l1 (x1 : Sl) (k : Option Addr → AH → Prop) (o21 : Nat) (t5 : Int) (HL5 : AH) (it5 : (Int) → AH → Prop) : Prop :=
 bcase (decide ((t5 : Int) < ((x1.n : Nat) : Int))) ((0 ≤ t5 ∧ t5 < ((x1.n : Nat) : Int)) ∧ onPtr x1.a fun a26 => elI .i64 (AH.cell? HL5 (qkN a26 (qkX t5 * 1))) fun n27 => elL (AH.cell? HL5 (qkN ⟨o21, 0, none⟩ 1)) fun s36 => newC HL5 ⟨[(qkL .i64 (if (1099511627776 : Int) < (if (0 : Int) > n27 then (0 : Int) else n27) then (1099511627776 : Int) else (if (0 : Int) > n27 then (0 : Int) else n27)))], .rw, 1⟩ fun o38 H38 => elL (AH.cell? H38 (qkN ⟨o21, 0, none⟩ 2)) fun s43 => newC H38 ⟨[(qkL .i64 (if (1099511627776 : Int) < (if (0 : Int) > n27 then (0 : Int) else n27) then (1099511627776 : Int) else (if (0 : Int) > n27 then (0 : Int) else n27)))], .rw, 1⟩ fun o45 H45 => appendC 1 H45 s36 ⟨(some ⟨o38, 0, none⟩), 1, 1⟩ fun s39 H39 => AH.cell? H39 (qkN ⟨o21, 0, none⟩ 2) = some (Sl.val s43) ∧ appendC 1 H39 s43 ⟨(some ⟨o45, 0, none⟩), 1, 1⟩ fun s46 H46 => stC H46 (qkN ⟨o21, 0, none⟩ 1) [(Sl.val s39)] fun Hs2 => stC Hs2 (qkN ⟨o21, 0, none⟩ 2) [(Sl.val s46)] fun Hs4 => it5 (qkM .i64 (t5 + (1 : Int))) Hs4) (k (some ⟨o21, 0, none⟩) HL5)
def qaI.j2 (x0 : Int) (x1 : Sl) (H : AH) (k : Option Addr → AH → Prop) (x18 : Bool) : Prop :=
 bcase x18 (k none H) (newC H ⟨[(qkL .i64 x0), (qk2 none 0 0), (qk2 none 0 0)], .rw, 0⟩ fun o21 H21 => loopT (qaI.l1 x1 k o21) (((0 : Int)) : Int) H21)
def qaI.b (x0 : Int) (x1 : Sl) (H : AH) (k : Option Addr → AH → Prop) : Prop :=
 bcase (decide ((x0 : Int) < (1 : Int))) (qaI.j2 x0 x1 H k true) (bcase (decide ((x0 : Int) > (100 : Int))) (qaI.j2 x0 x1 H k true) (qaI.j2 x0 x1 H k (decide ((((x1.n : Nat) : Int) : Int) > (16 : Int)))))
def qaI.ann : Ann := { keep := fun r => match r with | 5 => [(24, .int .i64)] | _ => [], ord := fun r => match r with | 8 => [0, 1, 2, 3, 4, 5, 6, 7, 9, 10, 11, 12, 13, 14, 8, 15, 16, 17, 18, 19, 20, 21] | _ => [] }
theorem qaI.link {x0 : Int} {x1 : Sl} {H : AH} {k : Option Addr → AH → Prop} (h : qaI.b x0 x1 H k) : qaI x0 x1 H k := lk1 pan hT hm Tryz.func62 (by kernel_rfl) (A := qaI.ann) (by kernel_rfl) (by simp) (by kernel_rfl) h
def qN.j1 (k : Option Addr → Int → AH → Prop) (o3 : Nat) (o30 : Nat) (t22 : Option Addr × Int × Sl × Int) (HL22 : AH) : Prop :=
 elI .i64 (AH.cell? HL22 (qkN ⟨o3, 0, none⟩ 3)) fun n115 => qaI n115 t22.2.2.1 HL22 fun p117 H117 => stC H117 (qkN ⟨o30, 0, none⟩ 7) [(qkR p117)] fun Hs4 => k (some ⟨o30, 0, none⟩) (0 : Int) Hs4
def qN.l2 (x0 : Option Addr) (k : Option Addr → Int → AH → Prop) (o3 : Nat) (o30 : Nat) (n92 : Int) (t22 : Option Addr × Int × Sl × Int) (HL22 : AH) (it22 : (Option Addr × Int × Sl × Int) → AH → Prop) : Prop :=
 bcase (decide ((t22.2.2.2 : Int) < n92)) (qE x0 (qkM .i64 ((19 : Int) + t22.2.2.2)) HL22 fun n100a n100b H100 => bcase ((n100b : Int) != (0 : Int)) (k none n100b H100) (newC H100 ⟨[(qkL .i64 (qkM .i64 (if (1099511627776 : Int) < n100a then (1099511627776 : Int) else n100a)))], .rw, 1⟩ fun o110 H110 => appendC 1 H110 t22.2.2.1 ⟨(some ⟨o110, 0, none⟩), 1, 1⟩ fun s111 H111 => it22 (t22.1, t22.2.1, s111, (qkM .i64 (t22.2.2.2 + (1 : Int)))) H111)) (qN.j1 k o3 o30 t22 HL22)
def qN.j3 (x0 : Option Addr) (k : Option Addr → Int → AH → Prop) (o3 : Nat) (o30 : Nat) (x90 : Bool) (Hj : AH) : Prop :=
 bcase x90 (k none (6 : Int) Hj) (ldA Hj ⟨o3, 0, none⟩ 4 fun c91 => qb2 c91 Hj fun n92 H92 => loopT (qN.l2 x0 k o3 o30 n92) ((none, (0 : Int), ⟨none, 0, 0⟩, (0 : Int)) : Option Addr × Int × Sl × Int) H92)
def qN.b (x0 : Option Addr) (x1 : List Value) (H : AH) (k : Option Addr → Int → AH → Prop) : Prop :=
 newC H ⟨x1, .rw, 0⟩ fun o3 H3 => ldA H3 ⟨o3, 0, none⟩ 4 fun c19 => qbf x0 c19 H3 fun n20 H20 => bcase ((n20 : Int) != (0 : Int)) (k none n20 H20) (ldA H20 ⟨o3, 0, none⟩ 4 fun c25 => ldA H20 ⟨o3, 0, none⟩ 4 fun c27 => qbj x0 c27 H20 fun p28 H28 => AH.row? H28 ⟨o3, 0, none⟩ 4 = some c25 ∧ (qk0 c25 = 4) ∧ newC H28 ⟨(List.set (setMany [(qkR x0), (qkL .i64 (0 : Int)), (qkL .i64 (0 : Int)), (qkL .i64 (0 : Int)), (qkL .i64 (0 : Int)), (qkR none), (qkR none), (qkR none), (qlK false)] 1 c25) 5 (qkR p28)), .rw, 0⟩ fun o30 H30 => elP (AH.cell? H30 (qkN ⟨o30, 0, none⟩ 5)) fun p36 => log_New x0 p36 H30 fun p37 H37 => stC H37 (qkN ⟨o30, 0, none⟩ 6) [(qkR p37)] fun Hs2 => elP (AH.cell? Hs2 (qkN ⟨o30, 0, none⟩ 6)) fun p43 => bcase (qlj p43) (k none (6 : Int) Hs2) (elP (AH.cell? Hs2 (qkN ⟨o30, 0, none⟩ 6)) fun p48 => qbC p48 Hs2 fun n49 H49 => bcase ((n49 : Int) != (0 : Int)) (k none n49 H49) (qS (some ⟨o30, 0, none⟩) H49 fun s55a n55b H55 => bcase ((n55b : Int) != (0 : Int)) (k none n55b H55) (qE x0 (2 : Int) H55 fun n63a n63b H63 => bcase ((n63b : Int) != (0 : Int)) (k none n63b H63) (qI s55a H63 fun s71a b71b H71 => bcase (!b71b) (qN.j3 x0 k o3 o30 true H71) (bcase ((n63a : Int) != (0 : Int)) (bcase (decide ((n63a : Int) > (1048576 : Int))) (qN.j3 x0 k o3 o30 true H71) (qb1 s55a (qkM .i64 n63a) H71 fun b86 H86 => qN.j3 x0 k o3 o30 (!b86) H86)) (qN.j3 x0 k o3 o30 false H71)))))))
def qN.ann : Ann := { keep := fun r => match r with | 22 => [(4, .ptr), (5, .int .i64), (14, .sl), (93, .int .i64)] | _ => [], ord := fun r => match r with | 4 => [0, 1, 2, 3, 4, 5, 6, 7] | _ => [] }
theorem qN.link {x0 : Option Addr} {x1 : List Value} {H : AH} {k : Option Addr → Int → AH → Prop} (h : qN.b x0 x1 H k) : qN x0 x1 H k := lk2 pan hT hm Tryz.func17 (by kernel_rfl) (A := qN.ann) (by kernel_rfl) (by simp) (by simp) (by kernel_rfl) h
def qaG.b (x0 : Option Addr) (H : AH) (k : Int → AH → Prop) : Prop :=
 onPtr x0 fun a7 => elP (AH.cell? H (qkN a7 4)) fun p9 => onPtr x0 fun a11 => ldA H (qkN a11 0) 4 fun c13 => qN p9 c13 H fun p14a n14b H14 => onPtr x0 fun a19 => stC H14 (qkN a19 5) [(qkR p14a)] fun Hs2 => k n14b Hs2
def qaG.ann : Ann := { keep := fun r => match r with  | _ => [], ord := fun r => match r with | 1 => [0, 1, 2, 3, 4, 5, 6, 7, 8, 9, 10, 11, 12, 13] | _ => [] }
theorem qaG.link {x0 : Option Addr} {H : AH} {k : Int → AH → Prop} (h : qaG.b x0 H k) : qaG x0 H k := lk1 pan hT hm Tryz.func72 (by kernel_rfl) (A := qaG.ann) (by kernel_rfl) (by simp) (by kernel_rfl) h
def qbO.b (x0 : List Value) (x1 : Sl) (H : AH) (k : Option Addr → Int → AH → Prop) : Prop :=
 newC H ⟨x0, .rw, 0⟩ fun o2 H2 => ldA H2 ⟨o2, 0, none⟩ 4 fun c9 => qaM c9 H2 fun b10 H10 => bcase (!b10) (k none (1 : Int) H10) (ldA H10 ⟨o2, 0, none⟩ 4 fun c12 => ldA H10 ⟨o2, 0, none⟩ 4 fun c13 => qaz c13 H10 fun n14 H14 => AH.row? H14 ⟨o2, 0, none⟩ 4 = some c12 ∧ nvm_New n14 x1 H14 fun p16 H16 => AH.row? H16 ⟨o2, 0, none⟩ 4 = some c12 ∧ (qk0 c12 = 4) ∧ newC H16 ⟨(List.set (setMany [(qkL .i64 (0 : Int)), (qkL .i64 (0 : Int)), (qkL .i64 (0 : Int)), (qkL .i64 (0 : Int)), (qkR none), (qkR none), (qkL .i64 (0 : Int))] 0 c12) 4 (qkR p16)), .rw, 0⟩ fun o18 H18 => elP (AH.cell? H18 (qkN ⟨o18, 0, none⟩ 4)) fun p22 => ldA H18 ⟨o2, 0, none⟩ 4 fun c23 => qB p22 c23 H18 fun n24 H24 => bcase ((n24 : Int) != (0 : Int)) (k none n24 H24) (qaG (some ⟨o18, 0, none⟩) H24 fun n29 H29 => bcase ((n29 : Int) != (0 : Int)) (k none n29 H29) (k (some ⟨o18, 0, none⟩) (0 : Int) H29)))
def qbO.ann : Ann := { keep := fun r => match r with  | _ => [], ord := fun r => match r with | 3 => [0, 1, 3, 2, 4, 5, 6, 7] | 4 => [0, 1, 2, 3, 4, 5, 6] | _ => [] }
theorem qbO.link {x0 : List Value} {x1 : Sl} {H : AH} {k : Option Addr → Int → AH → Prop} (h : qbO.b x0 x1 H k) : qbO x0 x1 H k := lk2 pan hT hm Tryz.func24 (by kernel_rfl) (A := qbO.ann) (by kernel_rfl) (by simp) (by simp) (by kernel_rfl) h
def qap.b (x0 : Option Addr) (H : AH) (k : Int → AH → Prop) : Prop :=
 bcase (qlj x0) (k (0 : Int) H) (onPtr x0 fun a6 => elI .i64 (AH.cell? H (qkN a6 36)) fun n8 => k n8 H)
theorem qap.link {x0 : Option Addr} {H : AH} {k : Int → AH → Prop} (h : qap.b x0 H k) : qap x0 H k := lk1 pan hT hm Tryz.func26 (by kernel_rfl) (A := ann0) (by kernel_rfl) (by simp) (by kernel_rfl) h
def qaB.b (x0 : Option Addr) (x1 : Int) (x2 : Int) (H : AH) (k : AH → Prop) : Prop :=
 bcase (!(qlj x0)) (onPtr x0 fun a13 => stC H (qkN a13 37) [(qkL .i64 (if (-1 : Int) > x1 then (-1 : Int) else x1))] fun Hs2 => onPtr x0 fun a15 => stC Hs2 (qkN a15 38) [(qkL .i64 x2)] fun Hs4 => k Hs4) (k H)
theorem qaB.link {x0 : Option Addr} {x1 : Int} {x2 : Int} {H : AH} {k : AH → Prop} (h : qaB.b x0 x1 x2 H k) : qaB x0 x1 x2 H k := lk0 pan hT hm Tryz.func120 (by kernel_rfl) (A := ann0) (by kernel_rfl) (by kernel_rfl) h
def qao.b (x0 : Option Addr) (H : AH) (k : AH → Prop) : Prop :=
 bcase (!(qlj x0)) (onPtr x0 fun a6 => stC H (qkN a6 37) [(qkL .i64 (-1 : Int))] fun Hs2 => onPtr x0 fun a8 => stC Hs2 (qkN a8 39) [(qlK false)] fun Hs4 => k Hs4) (k H)
theorem qao.link {x0 : Option Addr} {H : AH} {k : AH → Prop} (h : qao.b x0 H k) : qao x0 H k := lk0 pan hT hm Tryz.func121 (by kernel_rfl) (A := ann0) (by kernel_rfl) (by kernel_rfl) h
def qaS.b (x0 : Option Addr) (x1 : List Value) (H : AH) (k : List Value → AH → Prop) : Prop :=
 newC H ⟨x1, .rw, 0⟩ fun o3 H3 => newC H3 ⟨[(qkL .i64 (0 : Int)), (qkL .i64 (0 : Int)), (qk2 none 0 0)], .rw, 0⟩ fun o4 H4 => elI .i64 (AH.cell? H4 (qkN ⟨o3, 0, none⟩ 0)) fun n7 => bcase ((n7 : Int) == (7 : Int)) (onPtr x0 fun a10 => elP (AH.cell? H4 (qkN a10 4)) fun p12 => elI .i64 (AH.cell? H4 (qkN ⟨o3, 0, none⟩ 2)) fun n14 => elI .i64 (AH.cell? H4 (qkN ⟨o3, 0, none⟩ 3)) fun n16 => qaB p12 n14 n16 H4 fun H17 => (qk0 [(qkL .i64 (0 : Int)), (qkL .i64 (0 : Int)), (qk2 none 0 0)] = 3 ∧ qlo [(qkL .i64 (0 : Int)), (qkL .i64 (0 : Int)), (qk2 none 0 0)] qo = true) ∧ stC H17 ⟨o4, 0, none⟩ [(qkL .i64 (0 : Int)), (qkL .i64 (0 : Int)), (qk2 none 0 0)] fun Hs2 => ldA Hs2 ⟨o4, 0, none⟩ 3 fun r0 => k r0 Hs2) (elI .i64 (AH.cell? H4 (qkN ⟨o3, 0, none⟩ 0)) fun n21 => bcase ((n21 : Int) == (8 : Int)) (onPtr x0 fun a24 => elP (AH.cell? H4 (qkN a24 4)) fun p26 => qao p26 H4 fun H27 => qaG x0 H27 fun n29 H29 => (qk0 [(qkL .i64 n29), (qkL .i64 (0 : Int)), (qk2 none 0 0)] = 3 ∧ qlo [(qkL .i64 n29), (qkL .i64 (0 : Int)), (qk2 none 0 0)] qo = true) ∧ stC H29 ⟨o4, 0, none⟩ [(qkL .i64 n29), (qkL .i64 (0 : Int)), (qk2 none 0 0)] fun Hs4 => ldA Hs4 ⟨o4, 0, none⟩ 3 fun r0 => k r0 Hs4) (onPtr x0 fun a33 => elP (AH.cell? H4 (qkN a33 5)) fun p35 => bcase (qlj p35) ((qk0 [(qkL .i64 (5 : Int)), (qkL .i64 (0 : Int)), (qk2 none 0 0)] = 3 ∧ qlo [(qkL .i64 (5 : Int)), (qkL .i64 (0 : Int)), (qk2 none 0 0)] qo = true) ∧ stC H4 ⟨o4, 0, none⟩ [(qkL .i64 (5 : Int)), (qkL .i64 (0 : Int)), (qk2 none 0 0)] fun Hs6 => ldA Hs6 ⟨o4, 0, none⟩ 3 fun r0 => k r0 Hs6) (onPtr x0 fun a39 => elP (AH.cell? H4 (qkN a39 5)) fun p41 => ldA H4 ⟨o3, 0, none⟩ 5 fun c42 => qr p41 c42 H4 fun c43 H43 => (qk0 c43 = 3 ∧ qlo c43 qo = true) ∧ stC H43 ⟨o4, 0, none⟩ c43 fun Hs8 => ldA Hs8 ⟨o4, 0, none⟩ 3 fun r0 => k r0 Hs8)))
def qaS.ann : Ann := { keep := fun r => match r with  | _ => [], ord := fun r => match r with | 2 => [0, 1, 2, 3, 4, 5, 6, 7, 8] | 9 => [0, 1, 2, 3, 4, 5, 6] | _ => [] }
theorem qaS.link {x0 : Option Addr} {x1 : List Value} {H : AH} {k : List Value → AH → Prop} (h : qaS.b x0 x1 H k) : qaS x0 x1 H k := lk1 pan hT hm Tryz.func73 (by kernel_rfl) (A := qaS.ann) (by kernel_rfl) (by simp) (by kernel_rfl) h
def qad.b (x0 : Option Addr) (x1 : List Value) (H : AH) (k : List Value → AH → Prop) : Prop :=
 newC H ⟨x1, .rw, 0⟩ fun o3 H3 => newC H3 ⟨[(qkL .i64 (0 : Int)), (qkL .i64 (0 : Int)), (qk2 none 0 0)], .rw, 0⟩ fun o4 H4 => bcase (qlj x0) ((qk0 [(qkL .i64 (1 : Int)), (qkL .i64 (0 : Int)), (qk2 none 0 0)] = 3 ∧ qlo [(qkL .i64 (1 : Int)), (qkL .i64 (0 : Int)), (qk2 none 0 0)] qo = true) ∧ stC H4 ⟨o4, 0, none⟩ [(qkL .i64 (1 : Int)), (qkL .i64 (0 : Int)), (qk2 none 0 0)] fun Hs2 => ldA Hs2 ⟨o4, 0, none⟩ 3 fun r0 => k r0 Hs2) (onPtr x0 fun a11 => elP (AH.cell? H4 (qkN a11 4)) fun p13 => qap p13 H4 fun n14 H14 => ldA H14 ⟨o3, 0, none⟩ 5 fun c16 => qaS x0 c16 H14 fun c17 H17 => newC H17 ⟨[(qkL .i64 (0 : Int)), (qkL .i64 (0 : Int)), (qk2 none 0 0)], .rw, 0⟩ fun o6 H6 => (qk0 c17 = 3 ∧ qlo c17 qo = true) ∧ stC H6 ⟨o6, 0, none⟩ c17 fun Hs4 => onPtr x0 fun a20 => elP (AH.cell? Hs4 (qkN a20 4)) fun p22 => qap p22 Hs4 fun n23 H23 => onPtr x0 fun a26 => stC H23 (qkN a26 6) [(qkL .i64 (qkM .i64 (n23 - n14)))] fun Hs6 => ldA Hs6 ⟨o6, 0, none⟩ 3 fun c28 => (qk0 c28 = 3 ∧ qlo c28 qo = true) ∧ stC Hs6 ⟨o4, 0, none⟩ c28 fun Hs8 => ldA Hs8 ⟨o4, 0, none⟩ 3 fun r0 => k r0 Hs8)
theorem qad.link {x0 : Option Addr} {x1 : List Value} {H : AH} {k : List Value → AH → Prop} (h : qad.b x0 x1 H k) : qad x0 x1 H k := lk1 pan hT hm Tryz.func28 (by kernel_rfl) (A := ann0) (by kernel_rfl) (by simp) (by kernel_rfl) h
def qR.j1 (k : Bool → AH → Prop) (H9 : AH) (p9a : Option Addr) (x17 : Bool) : Prop :=
 bcase x17 (k false H9) (qad p9a [(qkL .i64 (1 : Int)), (qkL .i64 (0 : Int)), (qkL .i64 (9 : Int)), (qkL .i64 (0 : Int)), (qk2 none 0 0)] H9 fun c20 H20 => newC H20 ⟨[(qkL .i64 (0 : Int)), (qkL .i64 (0 : Int)), (qk2 none 0 0)], .rw, 0⟩ fun o3 H3 => (qk0 c20 = 3 ∧ qlo c20 qo = true) ∧ stC H3 ⟨o3, 0, none⟩ c20 fun Hs2 => qad p9a [(qkL .i64 (7 : Int)), (qkL .i64 (0 : Int)), (qkL .i64 (0 : Int)), (qkL .i64 (0 : Int)), (qk2 none 0 0)] Hs2 fun c23 H23 => qad p9a [(qkL .i64 (2 : Int)), (qkL .i64 (8 : Int)), (qkL .i64 (0 : Int)), (qkL .i64 (0 : Int)), (qk2 none 0 0)] H23 fun c26 H26 => newC H26 ⟨[(qkL .i64 (0 : Int)), (qkL .i64 (0 : Int)), (qk2 none 0 0)], .rw, 0⟩ fun o4 H4 => (qk0 c26 = 3 ∧ qlo c26 qo = true) ∧ stC H4 ⟨o4, 0, none⟩ c26 fun Hs4 => qad p9a [(qkL .i64 (8 : Int)), (qkL .i64 (0 : Int)), (qkL .i64 (0 : Int)), (qkL .i64 (0 : Int)), (qk2 none 0 0)] Hs4 fun c29 H29 => newC H29 ⟨[(qkL .i64 (0 : Int)), (qkL .i64 (0 : Int)), (qk2 none 0 0)], .rw, 0⟩ fun o5 H5 => (qk0 c29 = 3 ∧ qlo c29 qo = true) ∧ stC H5 ⟨o5, 0, none⟩ c29 fun Hs6 => qad p9a [(qkL .i64 (3 : Int)), (qkL .i64 (8 : Int)), (qkL .i64 (9 : Int)), (qkL .i64 (0 : Int)), (qk2 none 0 0)] Hs6 fun c32 H32 => newC H32 ⟨[(qkL .i64 (0 : Int)), (qkL .i64 (0 : Int)), (qk2 none 0 0)], .rw, 0⟩ fun o6 H6 => (qk0 c32 = 3 ∧ qlo c32 qo = true) ∧ stC H6 ⟨o6, 0, none⟩ c32 fun Hs8 => elI .i64 (AH.cell? Hs8 (qkN ⟨o3, 0, none⟩ 1)) fun n34 => bcase ((n34 : Int) == (8 : Int)) (elI .i64 (AH.cell? Hs8 (qkN ⟨o4, 0, none⟩ 0)) fun n38 => bcase ((n38 : Int) == (2 : Int)) (elI .i64 (AH.cell? Hs8 (qkN ⟨o5, 0, none⟩ 0)) fun n43 => bcase ((n43 : Int) == (0 : Int)) (elL (AH.cell? Hs8 (qkN ⟨o6, 0, none⟩ 2)) fun s48 => k ((((s48.n : Nat) : Int) : Int) == (9 : Int)) Hs8) (k false Hs8)) (k false Hs8)) (k false Hs8))
def qR.b (H : AH) (k : Bool → AH → Prop) : Prop :=
 qbO [(qkL .i64 (4 : Int)), (qkL .i64 (1 : Int)), (qkL .i64 (2 : Int)), (qkL .i64 (2 : Int))] ⟨none, 0, 0⟩ H fun p9a n9b H9 => bcase ((n9b : Int) != (0 : Int)) (qR.j1 k H9 p9a true) (qR.j1 k H9 p9a (qlj p9a))
theorem qR.link {_u : Unit} {H : AH} {k : Bool → AH → Prop} (h : qR.b  H k) : qR  H k := lk1 pan hT hm Tryz.func13 (by kernel_rfl) (A := ann0) (by kernel_rfl) (by simp) (by kernel_rfl) h
def qaX.l1 (x0 : Sl) (k : Int → AH → Prop) (t3 : Int × Int) (HL3 : AH) (it3 : (Int × Int) → AH → Prop) : Prop :=
 bcase (decide ((t3.2 : Int) < ((x0.n : Nat) : Int))) ((0 ≤ t3.2 ∧ t3.2 < ((x0.n : Nat) : Int)) ∧ onPtr x0.a fun a10 => elI .u64 (AH.cell? HL3 (qkN a10 (qkX t3.2 * 1))) fun n11 => bcase ((n11 : Int) == (0 : Int)) (it3 ((qkM .i64 (t3.1 + (1 : Int))), (qkM .i64 (t3.2 + (1 : Int)))) HL3) (it3 (t3.1, (qkM .i64 (t3.2 + (1 : Int)))) HL3)) (k t3.1 HL3)
def qaX.b (x0 : Sl) (H : AH) (k : Int → AH → Prop) : Prop :=
 loopT (qaX.l1 x0 k) (((0 : Int), (0 : Int)) : Int × Int) H
def qaX.ann : Ann := { keep := fun r => match r with | 3 => [(3, .int .i64), (8, .int .i64)] | _ => [], ord := fun r => match r with  | _ => [] }
theorem qaX.link {x0 : Sl} {H : AH} {k : Int → AH → Prop} (h : qaX.b x0 H k) : qaX x0 H k := lk1 pan hT hm Tryz.func159 (by kernel_rfl) (A := qaX.ann) (by kernel_rfl) (by simp) (by kernel_rfl) h
def qbo.b (x0 : Option Addr) (H : AH) (k : Int → AH → Prop) : Prop :=
 bcase (qlj x0) (k (0 : Int) H) (qD x0 H fun s9a n9b H9 => qaX s9a H9 fun n13 H13 => k n13 H13)
theorem qbo.link {x0 : Option Addr} {H : AH} {k : Int → AH → Prop} (h : qbo.b x0 H k) : qbo x0 H k := lk1 pan hT hm Tryz.func119 (by kernel_rfl) (A := ann0) (by kernel_rfl) (by simp) (by kernel_rfl) h
def qbv.b (x0 : Option Addr) (H : AH) (k : Int → AH → Prop) : Prop :=
 bcase (qlj x0) (k (0 : Int) H) (onPtr x0 fun a6 => elP (AH.cell? H (qkN a6 1)) fun p8 => qbo p8 H fun n9 H9 => k n9 H9)
theorem qbv.link {x0 : Option Addr} {H : AH} {k : Int → AH → Prop} (h : qbv.b x0 H k) : qbv x0 H k := lk1 pan hT hm Tryz.func70 (by kernel_rfl) (A := ann0) (by kernel_rfl) (by simp) (by kernel_rfl) h
def qbx.b (x0 : Option Addr) (H : AH) (k : Int → AH → Prop) : Prop :=
 bcase (qlj x0) (k (0 : Int) H) (onPtr x0 fun a6 => elP (AH.cell? H (qkN a6 5)) fun p8 => qbv p8 H fun n9 H9 => k n9 H9)
theorem qbx.link {x0 : Option Addr} {H : AH} {k : Int → AH → Prop} (h : qbx.b x0 H k) : qbx x0 H k := lk1 pan hT hm Tryz.func19 (by kernel_rfl) (A := ann0) (by kernel_rfl) (by simp) (by kernel_rfl) h
def qbm.b (x0 : Option Addr) (H : AH) (k : Bool → AH → Prop) : Prop :=
 bcase (qlj x0) (k false H) (onPtr x0 fun a9 => elP (AH.cell? H (qkN a9 0)) fun p11 => qE p11 (1 : Int) H fun n12a n12b H12 => k ((n12a : Int) != (0 : Int)) H12)
theorem qbm.link {x0 : Option Addr} {H : AH} {k : Bool → AH → Prop} (h : qbm.b x0 H k) : qbm x0 H k := lk1 pan hT hm Tryz.func71 (by kernel_rfl) (A := ann0) (by kernel_rfl) (by simp) (by kernel_rfl) h
def qby.b (x0 : Option Addr) (H : AH) (k : Bool → AH → Prop) : Prop :=
 bcase (!(qlj x0)) (onPtr x0 fun a7 => elB (AH.cell? H (qkN a7 8)) fun b9 => bcase b9 (k true H) (onPtr x0 fun a12 => elP (AH.cell? H (qkN a12 6)) fun p14 => qbm p14 H fun b15 H15 => k b15 H15)) (k false H)
theorem qby.link {x0 : Option Addr} {H : AH} {k : Bool → AH → Prop} (h : qby.b x0 H k) : qby x0 H k := lk1 pan hT hm Tryz.func20 (by kernel_rfl) (A := ann0) (by kernel_rfl) (by simp) (by kernel_rfl) h
def qh.j1 (k : Bool → AH → Prop) (HL16 : AH) : Prop :=
 qR  HL16 fun b148 H148 => k b148 H148
def qh.j2 (k : Bool → AH → Prop) (t16 : Bool × Int × Int) (it16 : (Bool × Int × Int) → AH → Prop) (x11 : Int) (Hs8 : AH) (x146 : Bool) : Prop :=
 bcase x146 (k false Hs8) (it16 (t16.1, x11, (qkM .i64 (t16.2.2 + (1 : Int)))) Hs8)
def qh.j3 (k : Bool → AH → Prop) (p42a : Option Addr) (o10 : Nat) (t16 : Bool × Int × Int) (it16 : (Bool × Int × Int) → AH → Prop) (o13 : Nat) (x11 : Int) (Hj : AH) : Prop :=
 elI .i64 (AH.cell? Hj (qkN ⟨o10, 0, none⟩ 1)) fun n109 => qr p42a [(qkL .i64 (3 : Int)), (qkL .i64 n109), (qkL .i64 (2 : Int)), (qkL .i64 (0 : Int)), (qk2 none 0 0)] Hj fun c111 H111 => newC H111 ⟨[(qkL .i64 (0 : Int)), (qkL .i64 (0 : Int)), (qk2 none 0 0)], .rw, 0⟩ fun o14 H14 => (qk0 c111 = 3 ∧ qlo c111 qo = true) ∧ stC H14 ⟨o14, 0, none⟩ c111 fun Hs8 => elI .i64 (AH.cell? Hs8 (qkN ⟨o14, 0, none⟩ 0)) fun n113 => bcase ((n113 : Int) != (0 : Int)) (qh.j2 k t16 it16 x11 Hs8 true) (elL (AH.cell? Hs8 (qkN ⟨o14, 0, none⟩ 2)) fun s117 => bcase ((((s117.n : Nat) : Int) : Int) != (2 : Int)) (qh.j2 k t16 it16 x11 Hs8 true) (bcase (decide ((t16.2.2 : Int) > (0 : Int))) (elL (AH.cell? Hs8 (qkN ⟨o14, 0, none⟩ 2)) fun s126 => (0 ≤ (0 : Int) ∧ (0 : Int) < ((s126.n : Nat) : Int)) ∧ onPtr s126.a fun a127 => elI .u8 (AH.cell? Hs8 (qkN a127 (qkX (0 : Int) * 1))) fun n128 => bcase ((n128 : Int) != x11) (qh.j2 k t16 it16 x11 Hs8 true) (elI .i64 (AH.cell? Hs8 (qkN ⟨o13, 0, none⟩ 0)) fun n135 => bcase ((n135 : Int) == (0 : Int)) (elL (AH.cell? Hs8 (qkN ⟨o14, 0, none⟩ 2)) fun s139 => (0 ≤ (1 : Int) ∧ (1 : Int) < ((s139.n : Nat) : Int)) ∧ onPtr s139.a fun a140 => elI .u8 (AH.cell? Hs8 (qkN a140 (qkX (1 : Int) * 1))) fun n141 => qh.j2 k t16 it16 x11 Hs8 ((n141 : Int) != (qkM .u8 (x11 + (1 : Int))))) (qh.j2 k t16 it16 x11 Hs8 false))) (elI .i64 (AH.cell? Hs8 (qkN ⟨o13, 0, none⟩ 0)) fun n135 => bcase ((n135 : Int) == (0 : Int)) (elL (AH.cell? Hs8 (qkN ⟨o14, 0, none⟩ 2)) fun s139 => (0 ≤ (1 : Int) ∧ (1 : Int) < ((s139.n : Nat) : Int)) ∧ onPtr s139.a fun a140 => elI .u8 (AH.cell? Hs8 (qkN a140 (qkX (1 : Int) * 1))) fun n141 => qh.j2 k t16 it16 x11 Hs8 ((n141 : Int) != (qkM .u8 (x11 + (1 : Int))))) (qh.j2 k t16 it16 x11 Hs8 false))))
def qh.j4 (k : Bool → AH → Prop) (p42a : Option Addr) (o10 : Nat) (t16 : Bool × Int × Int) (it16 : (Bool × Int × Int) → AH → Prop) (o13 : Nat) (x106 : Bool) (Hj : AH) : Prop :=
 bcase x106 (k false Hj) (qh.j3 k p42a o10 t16 it16 o13 t16.2.1 Hj)
def qh.l5 (x2 : Int) (k : Bool → AH → Prop) (p42a : Option Addr) (o10 : Nat) (t16 : Bool × Int × Int) (HL16 : AH) (it16 : (Bool × Int × Int) → AH → Prop) : Prop :=
 bcase (decide ((t16.2.2 : Int) < (qkM .i64 (qlM (qkM .u64 x2) (120 : Int))))) (elI .i64 (AH.cell? HL16 (qkN ⟨o10, 0, none⟩ 1)) fun n80 => newC HL16 ⟨[(qkL .u8 (qkM .u8 t16.2.2)), (qkL .u8 (qkM .u8 (qkM .i64 (t16.2.2 + (1 : Int)))))], .rw, 1⟩ fun o86 H86 => qr p42a [(qkL .i64 (4 : Int)), (qkL .i64 n80), (qkL .i64 (0 : Int)), (qkL .i64 (0 : Int)), (qk2 (some ⟨o86, 0, none⟩) 2 1)] H86 fun c88 H88 => newC H88 ⟨[(qkL .i64 (0 : Int)), (qkL .i64 (0 : Int)), (qk2 none 0 0)], .rw, 0⟩ fun o13 H13 => (qk0 c88 = 3 ∧ qlo c88 qo = true) ∧ stC H13 ⟨o13, 0, none⟩ c88 fun Hs6 => elI .i64 (AH.cell? Hs6 (qkN ⟨o13, 0, none⟩ 0)) fun n90 => bcase ((n90 : Int) == (0 : Int)) (qh.j3 k p42a o10 t16 it16 o13 (qkM .u8 t16.2.2) Hs6) (elI .i64 (AH.cell? Hs6 (qkN ⟨o13, 0, none⟩ 0)) fun n95 => bcase ((n95 : Int) != (3 : Int)) (qh.j4 k p42a o10 t16 it16 o13 true Hs6) (qbx p42a Hs6 fun n99 H99 => bcase ((n99 : Int) != (0 : Int)) (qh.j4 k p42a o10 t16 it16 o13 true H99) (qby p42a H99 fun b104 H104 => qh.j4 k p42a o10 t16 it16 o13 (!b104) H104)))) (qh.j1 k HL16)
def qh.j6 (x1 : Sl) (x2 : Int) (k : Bool → AH → Prop) (H42 : AH) (p42a : Option Addr) (x50 : Bool) : Prop :=
 bcase x50 (bcase (decide ((((x1.n : Nat) : Int) : Int) > (0 : Int))) (qR  H42 fun b55 H55 => k b55 H55) (k false H42)) (qr p42a [(qkL .i64 (1 : Int)), (qkL .i64 (0 : Int)), (qkL .i64 (16 : Int)), (qkL .i64 (0 : Int)), (qk2 none 0 0)] H42 fun c59 H59 => newC H59 ⟨[(qkL .i64 (0 : Int)), (qkL .i64 (0 : Int)), (qk2 none 0 0)], .rw, 0⟩ fun o10 H10 => (qk0 c59 = 3 ∧ qlo c59 qo = true) ∧ stC H10 ⟨o10, 0, none⟩ c59 fun Hs4 => elI .i64 (AH.cell? Hs4 (qkN ⟨o10, 0, none⟩ 0)) fun n61 => bcase ((n61 : Int) != (0 : Int)) (elI .i64 (AH.cell? Hs4 (qkN ⟨o10, 0, none⟩ 0)) fun n64 => bcase ((n64 : Int) == (3 : Int)) (qbx p42a Hs4 fun n68 H68 => bcase ((n68 : Int) == (0 : Int)) (qR  H68 fun b72 H72 => k b72 H72) (k false H68)) (k false Hs4)) (loopT (qh.l5 x2 k p42a o10) ((false, (0 : Int), (0 : Int)) : Bool × Int × Int) Hs4))
def qh.b (x0 : List Value) (x1 : Sl) (x2 : Int) (H : AH) (k : Bool → AH → Prop) : Prop :=
 newC H ⟨x0, .rw, 0⟩ fun o3 H3 => ldA H3 ⟨o3, 0, none⟩ 4 fun c15 => qbq c15 H3 fun c16 H16 => (qk0 c16 = 4 ∧ qlo c16 qo = true) ∧ stC H16 ⟨o3, 0, none⟩ c16 fun Hs2 => ((120 : Int) : Int) ≠ 0 ∧ bcase (decide ((((x1.n : Nat) : Int) : Int) > (200 : Int))) (qR  Hs2 fun b24 H24 => k b24 H24) (ldA Hs2 ⟨o3, 0, none⟩ 4 fun c25 => qaz c25 Hs2 fun n26 H26 => nvm_New n26 x1 H26 fun p28 H28 => ldA H28 ⟨o3, 0, none⟩ 4 fun c30 => qB p28 c30 H28 fun n31 H31 => bcase ((n31 : Int) != (0 : Int)) (bcase (decide ((((x1.n : Nat) : Int) : Int) > (0 : Int))) (qR  H31 fun b37 H37 => k b37 H37) (k false H31)) (ldA H31 ⟨o3, 0, none⟩ 4 fun c41 => qN p28 c41 H31 fun p42a n42b H42 => bcase ((n42b : Int) != (0 : Int)) (qh.j6 x1 x2 k H42 p42a true) (qh.j6 x1 x2 k H42 p42a (qlj p42a))))
def qh.ann : Ann := { keep := fun r => match r with | 16 => [(6, .bool), (11, .int .u8), (75, .int .i64)] | _ => [], ord := fun r => match r with  | _ => [] }
theorem qh.link {x0 : List Value} {x1 : Sl} {x2 : Int} {H : AH} {k : Bool → AH → Prop} (h : qh.b x0 x1 x2 H k) : qh x0 x1 x2 H k := lk1 pan hT hm Tryz.func3 (by kernel_rfl) (A := qh.ann) (by kernel_rfl) (by simp) (by kernel_rfl) h
def qbz.j1 (x0 : Int) (H : AH) (k : Int → AH → Prop) (x8 : Bool) : Prop :=
 bcase x8 (k (0 : Int) H) (((8 : Int) : Int) ≠ 0 ∧ k (qkM .i64 ((qkM .i64 (qmc (qkM .i64 (x0 + (7 : Int))) (8 : Int))) + (1 : Int))) H)
def qbz.b (x0 : Int) (H : AH) (k : Int → AH → Prop) : Prop :=
 bcase (decide ((x0 : Int) < (1 : Int))) (qbz.j1 x0 H k true) (qbz.j1 x0 H k (decide ((x0 : Int) > (448 : Int))))
theorem qbz.link {x0 : Int} {H : AH} {k : Int → AH → Prop} (h : qbz.b x0 H k) : qbz x0 H k := lk1 pan hT hm Tryz.func109 (by kernel_rfl) (A := ann0) (by kernel_rfl) (by simp) (by kernel_rfl) h
def qO.j1 (t3 : Sl × Int) (it3 : (Sl × Int) → AH → Prop) (Hs2 : AH) (x5 : Sl) (x56 : Bool) : Prop :=
 bcase x56 (newC Hs2 ⟨[(qkL .i64 t3.2)], .rw, 1⟩ fun o59 H59 => appendC 1 H59 x5 ⟨(some ⟨o59, 0, none⟩), 1, 1⟩ fun s60 H60 => it3 (s60, (qkM .i64 (t3.2 + (1 : Int)))) H60) (it3 (x5, (qkM .i64 (t3.2 + (1 : Int)))) Hs2)
def qO.j2 (x0 : Sl) (t3 : Sl × Int) (it3 : (Sl × Int) → AH → Prop) (o7 : Nat) (Hs2 : AH) (x5 : Sl) : Prop :=
 bcase ((((x5.n : Nat) : Int) : Int) == (0 : Int)) (qO.j1 t3 it3 Hs2 x5 true) (elI .i64 (AH.cell? Hs2 (qkN ⟨o7, 0, none⟩ 1)) fun n47 => (0 ≤ (0 : Int) ∧ (0 : Int) < ((x5.n : Nat) : Int)) ∧ onPtr x5.a fun a50 => elI .i64 (AH.cell? Hs2 (qkN a50 (qkX (0 : Int) * 1))) fun n51 => (0 ≤ n51 ∧ n51 < ((x0.n : Nat) : Int)) ∧ onPtr x0.a fun a52 => elI .i64 (AH.cell? Hs2 (qkN (qkN a52 (qkX n51 * 3)) 1)) fun n54 => qO.j1 t3 it3 Hs2 x5 ((n47 : Int) == n54))
def qO.j3 (x0 : Sl) (t3 : Sl × Int) (it3 : (Sl × Int) → AH → Prop) (o7 : Nat) (Hs2 : AH) (x41 : Bool) : Prop :=
 bcase x41 (qO.j2 x0 t3 it3 o7 Hs2 ⟨none, 0, 0⟩) (qO.j2 x0 t3 it3 o7 Hs2 t3.1)
def qO.j4 (x0 : Sl) (t3 : Sl × Int) (it3 : (Sl × Int) → AH → Prop) (o7 : Nat) (Hs2 : AH) (x26 : Bool) : Prop :=
 bcase x26 (it3 (t3.1, (qkM .i64 (t3.2 + (1 : Int)))) Hs2) (bcase (decide ((((t3.1.n : Nat) : Int) : Int) > (0 : Int))) (elI .i64 (AH.cell? Hs2 (qkN ⟨o7, 0, none⟩ 1)) fun n32 => (0 ≤ (0 : Int) ∧ (0 : Int) < ((t3.1.n : Nat) : Int)) ∧ onPtr t3.1.a fun a35 => elI .i64 (AH.cell? Hs2 (qkN a35 (qkX (0 : Int) * 1))) fun n36 => (0 ≤ n36 ∧ n36 < ((x0.n : Nat) : Int)) ∧ onPtr x0.a fun a37 => elI .i64 (AH.cell? Hs2 (qkN (qkN a37 (qkX n36 * 3)) 1)) fun n39 => qO.j3 x0 t3 it3 o7 Hs2 (decide ((n32 : Int) < n39))) (qO.j3 x0 t3 it3 o7 Hs2 false))
def qO.l5 (x0 : Sl) (x1 : Int) (k : Sl → AH → Prop) (t3 : Sl × Int) (HL3 : AH) (it3 : (Sl × Int) → AH → Prop) : Prop :=
 bcase (decide ((t3.2 : Int) < ((x0.n : Nat) : Int))) ((0 ≤ t3.2 ∧ t3.2 < ((x0.n : Nat) : Int)) ∧ onPtr x0.a fun a13 => ldA HL3 (qkN a13 (qkX t3.2 * 3)) 3 fun c14 => newC HL3 ⟨[(qkL .i64 (0 : Int)), (qkL .i64 (0 : Int)), (qlK false)], .rw, 0⟩ fun o7 H7 => (qk0 c14 = 3 ∧ qlo c14 qo = true) ∧ stC H7 ⟨o7, 0, none⟩ c14 fun Hs2 => bcase (decide ((x1 : Int) < (2 : Int))) (qO.j4 x0 t3 it3 o7 Hs2 true) (elB (AH.cell? Hs2 (qkN ⟨o7, 0, none⟩ 2)) fun b19 => bcase b19 (qO.j4 x0 t3 it3 o7 Hs2 true) (elI .i64 (AH.cell? Hs2 (qkN ⟨o7, 0, none⟩ 1)) fun n23 => qO.j4 x0 t3 it3 o7 Hs2 (decide ((n23 : Int) < x1))))) (k t3.1 HL3)
def qO.b (x0 : Sl) (x1 : Int) (H : AH) (k : Sl → AH → Prop) : Prop :=
 loopT (qO.l5 x0 x1 k) ((⟨none, 0, 0⟩, (0 : Int)) : Sl × Int) H
def qO.ann : Ann := { keep := fun r => match r with | 3 => [(5, .sl), (10, .int .i64)] | _ => [], ord := fun r => match r with | 6 => [0, 1, 2, 3, 4, 5, 6, 7, 8, 9, 10, 11, 12, 13, 14] | 8 => [0, 1, 2, 3, 4, 5, 6, 7, 8, 9, 10, 11, 12, 13, 14] | _ => [] }
theorem qO.link {x0 : Sl} {x1 : Int} {H : AH} {k : Sl → AH → Prop} (h : qO.b x0 x1 H k) : qO x0 x1 H k := lk1 pan hT hm Tryz.func164 (by kernel_rfl) (A := qO.ann) (by kernel_rfl) (by simp) (by kernel_rfl) h
def qbA.j1 (x0 : Int) (x1 : Int) (H : AH) (k : Int → AH → Prop) (x5 : Bool) : Prop :=
 bcase x5 (k (0 : Int) H) (bcase (decide (((qkM .i64 (x0 - x1)) : Int) < (2 : Int))) (k x0 H) (k x1 H))
def qbA.b (x0 : Int) (x1 : Int) (H : AH) (k : Int → AH → Prop) : Prop :=
 bcase (decide ((x1 : Int) < (2 : Int))) (qbA.j1 x0 x1 H k true) (qbA.j1 x0 x1 H k (decide ((x1 : Int) > x0)))
theorem qbA.link {x0 : Int} {x1 : Int} {H : AH} {k : Int → AH → Prop} (h : qbA.b x0 x1 H k) : qbA x0 x1 H k := lk1 pan hT hm Tryz.func162 (by kernel_rfl) (A := ann0) (by kernel_rfl) (by simp) (by kernel_rfl) h
def qY.b (x0 : Int) (H : AH) (pk : Value → AH → Prop) (k : AH → Prop) : Prop :=
 bcase ((x0 : Int) != (0 : Int)) (pk (Value.iface 31 (qkL .i64 x0)) H) (k H)
theorem qY.link {x0 : Int} {H : AH} {pk : Value → AH → Prop} {k : AH → Prop} (h : qY.b x0 H pk k) : qY x0 H pk k := lk0 pan hT hm Tryz.func113 (by kernel_rfl) (A := ann0) (by kernel_rfl) (by kernel_rfl) h
def qaC.b (x0 : Option Addr) (H : AH) (pk : Value → AH → Prop) (k : Sl → AH → Prop) : Prop :=
 qS x0 H fun s7a n7b H7 => qY n7b H7 (fun pv11 Hp11 => pk pv11 Hp11) fun H11 => k s7a H11
theorem qaC.link {x0 : Option Addr} {H : AH} {pk : Value → AH → Prop} {k : Sl → AH → Prop} (h : qaC.b x0 H pk k) : qaC x0 H pk k := lk1 pan hT hm Tryz.func108 (by kernel_rfl) (A := ann0) (by kernel_rfl) (by simp) (by kernel_rfl) h
def qag.b (x0 : Option Addr) (H : AH) (pk : Value → AH → Prop) (k : AH → Prop) : Prop :=
 qby x0 H fun b3 H3 => bcase b3 (pk (Value.iface 31 (qkL .i64 (3 : Int))) H3) (k H3)
theorem qag.link {x0 : Option Addr} {H : AH} {pk : Value → AH → Prop} {k : AH → Prop} (h : qag.b x0 H pk k) : qag x0 H pk k := lk0 pan hT hm Tryz.func110 (by kernel_rfl) (A := ann0) (by kernel_rfl) (by kernel_rfl) h
def qav.b (x0 : Sl) (H : AH) (k : Sl → AH → Prop) : Prop :=
 bcase (qlj x0.a) (k ⟨none, 0, 0⟩ H) (newC H ⟨[], .rw, 1⟩ fun o5 H5 => appendC 1 H5 ⟨(some ⟨o5, 0, none⟩), 0, 1⟩ x0 fun s7 H7 => k s7 H7)
theorem qav.link {x0 : Sl} {H : AH} {k : Sl → AH → Prop} (h : qav.b x0 H k) : qav x0 H k := lk1 pan hT hm Tryz.func147 (by kernel_rfl) (A := ann0) (by kernel_rfl) (by simp) (by kernel_rfl) h
def qbE.b (x0 : Option Addr) (H : AH) (k : Sl → AH → Prop) : Prop :=
 bcase (qlj x0) (k ⟨none, 0, 0⟩ H) (onPtr x0 fun a6 => elL (AH.cell? H (qkN a6 1)) fun s8 => qav s8 H fun s9 H9 => k s9 H9)
theorem qbE.link {x0 : Option Addr} {H : AH} {k : Sl → AH → Prop} (h : qbE.b x0 H k) : qbE x0 H k := lk1 pan hT hm Tryz.func112 (by kernel_rfl) (A := ann0) (by kernel_rfl) (by simp) (by kernel_rfl) h
def qbd.j1 (x1 : Sl) (k : Int → AH → Prop) (o2 : Nat) (H2 : AH) (x15 : Bool) : Prop :=
 bcase x15 (k (0 : Int) H2) (elI .i64 (AH.cell? H2 (qkN ⟨o2, 0, none⟩ 0)) fun n18 => ((32 : Int) : Int) ≠ 0 ∧ (0 ≤ (qkM .i64 (qmc n18 (32 : Int))) ∧ (qkM .i64 (qmc n18 (32 : Int))) < ((x1.n : Nat) : Int)) ∧ onPtr x1.a fun a20 => elI .i64 (AH.cell? H2 (qkN a20 (qkX (qkM .i64 (qmc n18 (32 : Int))) * 1))) fun n21 => k n21 H2)
def qbd.b (x0 : List Value) (x1 : Sl) (H : AH) (k : Int → AH → Prop) : Prop :=
 newC H ⟨x0, .rw, 0⟩ fun o2 H2 => elI .i64 (AH.cell? H2 (qkN ⟨o2, 0, none⟩ 0)) fun n6 => bcase (decide ((n6 : Int) < (0 : Int))) (qbd.j1 x1 k o2 H2 true) (elI .i64 (AH.cell? H2 (qkN ⟨o2, 0, none⟩ 0)) fun n10 => ((32 : Int) : Int) ≠ 0 ∧ qbd.j1 x1 k o2 H2 (decide (((qkM .i64 (qmc n10 (32 : Int))) : Int) ≥ ((x1.n : Nat) : Int))))
theorem qbd.link {x0 : List Value} {x1 : Sl} {H : AH} {k : Int → AH → Prop} (h : qbd.b x0 x1 H k) : qbd x0 x1 H k := lk1 pan hT hm Tryz.func173 (by kernel_rfl) (A := ann0) (by kernel_rfl) (by simp) (by kernel_rfl) h
def qas.j1 (t3 : Int × Int) (it3 : (Int × Int) → AH → Prop) (n19 : Int) (H34 : AH) (x55 : Bool) : Prop :=
 bcase x55 (it3 (n19, (qkM .i64 (t3.2 + (1 : Int)))) H34) (it3 (t3.1, (qkM .i64 (t3.2 + (1 : Int)))) H34)
def qas.l2 (x0 : Sl) (x2 : Sl) (k : Int → AH → Prop) (s14 : Sl) (t3 : Int × Int) (HL3 : AH) (it3 : (Int × Int) → AH → Prop) : Prop :=
 bcase (decide ((t3.2 : Int) < ((s14.n : Nat) : Int))) ((0 ≤ t3.2 ∧ t3.2 < ((s14.n : Nat) : Int)) ∧ onPtr s14.a fun a18 => elI .i64 (AH.cell? HL3 (qkN a18 (qkX t3.2 * 1))) fun n19 => bcase (decide ((t3.1 : Int) < (0 : Int))) (it3 (n19, (qkM .i64 (t3.2 + (1 : Int)))) HL3) ((0 ≤ n19 ∧ n19 < ((x0.n : Nat) : Int)) ∧ onPtr x0.a fun a25 => ldA HL3 (qkN a25 (qkX n19 * 3)) 3 fun c26 => (0 ≤ t3.1 ∧ t3.1 < ((x0.n : Nat) : Int)) ∧ onPtr x0.a fun a31 => ldA HL3 (qkN a31 (qkX t3.1 * 3)) 3 fun c32 => qbd c26 x2 HL3 fun n28 H28 => AH.row? H28 (qkN a31 (qkX t3.1 * 3)) 3 = some c32 ∧ qbd c32 x2 H28 fun n34 H34 => bcase (decide ((n28 : Int) < n34)) (qas.j1 t3 it3 n19 H34 true) (bcase ((n28 : Int) == n34) ((0 ≤ n19 ∧ n19 < ((x0.n : Nat) : Int)) ∧ onPtr x0.a fun a45 => elI .i64 (AH.cell? H34 (qkN (qkN a45 (qkX n19 * 3)) 0)) fun n47 => (0 ≤ t3.1 ∧ t3.1 < ((x0.n : Nat) : Int)) ∧ onPtr x0.a fun a50 => elI .i64 (AH.cell? H34 (qkN (qkN a50 (qkX t3.1 * 3)) 0)) fun n52 => qas.j1 t3 it3 n19 H34 (decide ((n47 : Int) < n52))) (qas.j1 t3 it3 n19 H34 false)))) (k t3.1 HL3)
def qas.b (x0 : Sl) (x1 : Int) (x2 : Sl) (H : AH) (k : Int → AH → Prop) : Prop :=
 qO x0 x1 H fun s14 H14 => loopT (qas.l2 x0 x2 k s14) (((-1 : Int), (0 : Int)) : Int × Int) H14
def qas.ann : Ann := { keep := fun r => match r with | 3 => [(7, .int .i64), (16, .int .i64)] | _ => [], ord := fun r => match r with | 7 => [0, 1, 2, 3, 4, 6, 7, 8, 9, 10, 5, 11, 12, 13] | 8 => [0, 1, 2, 3, 4, 5, 6, 7, 8, 9, 10, 11, 12, 13, 14, 15, 16, 17, 18, 19, 20] | _ => [] }
theorem qas.link {x0 : Sl} {x1 : Int} {x2 : Sl} {H : AH} {k : Int → AH → Prop} (h : qas.b x0 x1 x2 H k) : qas x0 x1 x2 H k := lk1 pan hT hm Tryz.func145 (by kernel_rfl) (A := qas.ann) (by kernel_rfl) (by simp) (by kernel_rfl) h
def qar.j1 (k : Int → AH → Prop) (t3 : Int × Int × Int) (it3 : (Int × Int × Int) → AH → Prop) (o5 : Nat) (H14 : AH) (x19 : Bool) : Prop :=
 bcase x19 (k (0 : Int) H14) (elI .i64 (AH.cell? H14 (qkN ⟨o5, 0, none⟩ 1)) fun n22 => it3 (t3.1, (qkM .i64 (t3.2.1 + n22)), (qkM .i64 (t3.2.2 + (1 : Int)))) H14)
def qar.l2 (x0 : Sl) (k : Int → AH → Prop) (t3 : Int × Int × Int) (HL3 : AH) (it3 : (Int × Int × Int) → AH → Prop) : Prop :=
 bcase (decide ((t3.2.2 : Int) < ((x0.n : Nat) : Int))) ((0 ≤ t3.2.2 ∧ t3.2.2 < ((x0.n : Nat) : Int)) ∧ onPtr x0.a fun a10 => ldA HL3 (qkN a10 (qkX t3.2.2 * 3)) 3 fun c11 => newC HL3 ⟨[(qkL .i64 (0 : Int)), (qkL .i64 (0 : Int)), (qlK false)], .rw, 0⟩ fun o5 H5 => (qk0 c11 = 3 ∧ qlo c11 qo = true) ∧ stC H5 ⟨o5, 0, none⟩ c11 fun Hs2 => elI .i64 (AH.cell? Hs2 (qkN ⟨o5, 0, none⟩ 1)) fun n13 => qaW n13 Hs2 fun b14 H14 => bcase (!b14) (qar.j1 k t3 it3 o5 H14 true) (qar.j1 k t3 it3 o5 H14 (decide ((t3.2.1 : Int) > (512 : Int))))) (k t3.2.1 HL3)
def qar.b (x0 : Sl) (H : AH) (k : Int → AH → Prop) : Prop :=
 loopT (qar.l2 x0 k) (((0 : Int), (0 : Int), (0 : Int)) : Int × Int × Int) H
def qar.ann : Ann := { keep := fun r => match r with | 3 => [(2, .int .i64), (3, .int .i64), (8, .int .i64)] | _ => [], ord := fun r => match r with  | _ => [] }
theorem qar.link {x0 : Sl} {H : AH} {k : Int → AH → Prop} (h : qar.b x0 H k) : qar x0 H k := lk1 pan hT hm Tryz.func189 (by kernel_rfl) (A := qar.ann) (by kernel_rfl) (by simp) (by kernel_rfl) h
def qaJ.j1 (x0 : Sl) (x1 : Int) (x2 : Int) (k : Sl → AH → Prop) (H13 : AH) (x31 : Bool) : Prop :=
 bcase x31 (k ⟨none, 0, 0⟩ H13) ((0 ≤ x1 ∧ x1 < ((x0.n : Nat) : Int)) ∧ onPtr x0.a fun a34 => ldA H13 (qkN a34 (qkX x1 * 3)) 3 fun c35 => newC H13 ⟨[(qkL .i64 (0 : Int)), (qkL .i64 (0 : Int)), (qlK false)], .rw, 0⟩ fun o7 H7 => (qk0 c35 = 3 ∧ qlo c35 qo = true) ∧ stC H7 ⟨o7, 0, none⟩ c35 fun Hs2 => elI .i64 (AH.cell? Hs2 (qkN ⟨o7, 0, none⟩ 1)) fun n37 => qbA n37 x2 Hs2 fun n39 H39 => bcase ((n39 : Int) == (0 : Int)) (k ⟨none, 0, 0⟩ H39) (elI .i64 (AH.cell? H39 (qkN ⟨o7, 0, none⟩ 0)) fun n43 => (qk0 [(qkL .i64 n43), (qkL .i64 n39), (qlK true)] = 3) ∧ newC H39 ⟨[(qkL .i64 n43), (qkL .i64 n39), (qlK true)], .rw, 3⟩ fun o46 H46 => elI .i64 (AH.cell? H46 (qkN ⟨o7, 0, none⟩ 1)) fun n49 => bcase (decide ((n39 : Int) < n49)) (elI .i64 (AH.cell? H46 (qkN ⟨o7, 0, none⟩ 0)) fun n53 => elI .i64 (AH.cell? H46 (qkN ⟨o7, 0, none⟩ 1)) fun n57 => (qk0 [(qkL .i64 (qkM .i64 (n53 + n39))), (qkL .i64 (qkM .i64 (n57 - n39))), (qlK false)] = 3) ∧ newC H46 ⟨[(qkL .i64 (qkM .i64 (n53 + n39))), (qkL .i64 (qkM .i64 (n57 - n39))), (qlK false)], .rw, 3⟩ fun o61 H61 => appendC 3 H61 ⟨(some ⟨o46, 0, none⟩), 1, 1⟩ ⟨(some ⟨o61, 0, none⟩), 1, 1⟩ fun s62 H62 => k s62 H62) (k ⟨(some ⟨o46, 0, none⟩), 1, 1⟩ H46)))
def qaJ.b (x0 : Sl) (x1 : Int) (x2 : Int) (H : AH) (k : Sl → AH → Prop) : Prop :=
 qar x0 H fun n12 H12 => qQ x0 n12 H12 fun b13 H13 => bcase (!b13) (qaJ.j1 x0 x1 x2 k H13 true) (bcase (decide ((x1 : Int) < (0 : Int))) (qaJ.j1 x0 x1 x2 k H13 true) (bcase (decide ((x1 : Int) ≥ ((x0.n : Nat) : Int))) (qaJ.j1 x0 x1 x2 k H13 true) ((0 ≤ x1 ∧ x1 < ((x0.n : Nat) : Int)) ∧ onPtr x0.a fun a28 => elB (AH.cell? H13 (qkN (qkN a28 (qkX x1 * 3)) 2)) fun b30 => qaJ.j1 x0 x1 x2 k H13 b30)))
theorem qaJ.link {x0 : Sl} {x1 : Int} {x2 : Int} {H : AH} {k : Sl → AH → Prop} (h : qaJ.b x0 x1 x2 H k) : qaJ x0 x1 x2 H k := lk1 pan hT hm Tryz.func174 (by kernel_rfl) (A := ann0) (by kernel_rfl) (by simp) (by kernel_rfl) h
def qT.j1 (t3 : Sl × Int) (it3 : (Sl × Int) → AH → Prop) (o9 : Nat) (t7 : Sl × Int) (it7 : (Sl × Int) → AH → Prop) (HL7 : AH) (x38 : Bool) : Prop :=
 bcase x38 (elI .i64 (AH.cell? HL7 (qkN ⟨o9, 0, none⟩ 0)) fun n43 => (qk0 [(qkL .i64 (qkM .i64 (n43 + t7.2))), (qkL .u64 (0 : Int))] = 2) ∧ newC HL7 ⟨[(qkL .i64 (qkM .i64 (n43 + t7.2))), (qkL .u64 (0 : Int))], .rw, 2⟩ fun o47 H47 => appendC 2 H47 t7.1 ⟨(some ⟨o47, 0, none⟩), 1, 1⟩ fun s48 H48 => it7 (s48, (qkM .i64 (t7.2 + (1 : Int)))) H48) (it3 (t7.1, (qkM .i64 (t3.2 + (1 : Int)))) HL7)
def qT.l2 (t3 : Sl × Int) (it3 : (Sl × Int) → AH → Prop) (o9 : Nat) (t7 : Sl × Int) (HL7 : AH) (it7 : (Sl × Int) → AH → Prop) : Prop :=
 elI .i64 (AH.cell? HL7 (qkN ⟨o9, 0, none⟩ 1)) fun n33 => bcase (decide ((t7.2 : Int) < n33)) (elB (AH.cell? HL7 (qkN ⟨o9, 0, none⟩ 2)) fun b37 => qT.j1 t3 it3 o9 t7 it7 HL7 b37) (qT.j1 t3 it3 o9 t7 it7 HL7 false)
def qT.l3 (k : Sl → AH → Prop) (s14 : Sl) (t3 : Sl × Int) (HL3 : AH) (it3 : (Sl × Int) → AH → Prop) : Prop :=
 bcase (decide ((t3.2 : Int) < ((s14.n : Nat) : Int))) ((0 ≤ t3.2 ∧ t3.2 < ((s14.n : Nat) : Int)) ∧ onPtr s14.a fun a18 => ldA HL3 (qkN a18 (qkX t3.2 * 3)) 3 fun c19 => newC HL3 ⟨[(qkL .i64 (0 : Int)), (qkL .i64 (0 : Int)), (qlK false)], .rw, 0⟩ fun o9 H9 => (qk0 c19 = 3 ∧ qlo c19 qo = true) ∧ stC H9 ⟨o9, 0, none⟩ c19 fun Hs2 => elI .i64 (AH.cell? Hs2 (qkN ⟨o9, 0, none⟩ 0)) fun n22 => elI .i64 (AH.cell? Hs2 (qkN ⟨o9, 0, none⟩ 1)) fun n24 => elB (AH.cell? Hs2 (qkN ⟨o9, 0, none⟩ 2)) fun b26 => qbk n24 b26 Hs2 fun n27 H27 => AH.cell? H27 (qkN ⟨o9, 0, none⟩ 0) = some (qkL .i64 n22) ∧ (qk0 [(qkL .i64 n22), (qkL .u64 n27)] = 2) ∧ newC H27 ⟨[(qkL .i64 n22), (qkL .u64 n27)], .rw, 2⟩ fun o29 H29 => appendC 2 H29 t3.1 ⟨(some ⟨o29, 0, none⟩), 1, 1⟩ fun s30 H30 => loopT (qT.l2 t3 it3 o9) ((s30, (1 : Int)) : Sl × Int) H30) (k t3.1 HL3)
def qT.b (x0 : Sl) (x1 : Int) (x2 : Int) (H : AH) (k : Sl → AH → Prop) : Prop :=
 qaJ x0 x1 x2 H fun s14 H14 => loopT (qT.l3 k s14) ((⟨none, 0, 0⟩, (0 : Int)) : Sl × Int) H14
def qT.ann : Ann := { keep := fun r => match r with | 3 => [(7, .sl), (16, .int .i64)] | 7 => [(7, .sl), (10, .int .i64)] | _ => [], ord := fun r => match r with | 5 => [0, 1, 2, 3, 4, 5, 6, 7, 8, 9, 10, 11] | _ => [] }
theorem qT.link {x0 : Sl} {x1 : Int} {x2 : Int} {H : AH} {k : Sl → AH → Prop} (h : qT.b x0 x1 x2 H k) : qT x0 x1 x2 H k := lk1 pan hT hm Tryz.func146 (by kernel_rfl) (A := qT.ann) (by kernel_rfl) (by simp) (by kernel_rfl) h
def qbu.b (x0 : Sl) (x1 : Int) (x2 : Sl) (H : AH) (k : Sl → Int → Int → AH → Prop) : Prop :=
 qbz x1 H fun n14 H14 => bcase ((n14 : Int) == (0 : Int)) (k ⟨none, 0, 0⟩ (0 : Int) (1 : Int) H14) (qI x0 H14 fun s19a b19b H19 => bcase (!b19b) (k ⟨none, 0, 0⟩ (0 : Int) (6 : Int) H19) (qas s19a n14 x2 H19 fun n27 H27 => bcase (decide ((n27 : Int) < (0 : Int))) (k ⟨none, 0, 0⟩ (0 : Int) (4 : Int) H27) ((0 ≤ n27 ∧ n27 < ((s19a.n : Nat) : Int)) ∧ onPtr s19a.a fun a36 => ldA H27 (qkN a36 (qkX n27 * 3)) 3 fun c37 => qT s19a n27 n14 H27 fun s33 H33 => AH.row? H33 (qkN a36 (qkX n27 * 3)) 3 = some c37 ∧ qaV c37 H33 fun n38 H38 => k s33 n38 (0 : Int) H38)))
def qbu.ann : Ann := { keep := fun r => match r with  | _ => [], ord := fun r => match r with | 10 => [0, 1, 2, 4, 5, 6, 7, 3, 8, 9, 10, 11] | _ => [] }
theorem qbu.link {x0 : Sl} {x1 : Int} {x2 : Sl} {H : AH} {k : Sl → Int → Int → AH → Prop} (h : qbu.b x0 x1 x2 H k) : qbu x0 x1 x2 H k := lk3 pan hT hm Tryz.func111 (by kernel_rfl) (A := qbu.ann) (by kernel_rfl) (by simp) (by simp) (by simp) (by kernel_rfl) h
def qU.b (x0 : Sl) (H : AH) (k : Sl → AH → Prop) : Prop :=
 bcase (qlj x0.a) (k ⟨none, 0, 0⟩ H) (newC H ⟨[], .rw, 1⟩ fun o5 H5 => appendC 1 H5 ⟨(some ⟨o5, 0, none⟩), 0, 1⟩ x0 fun s7 H7 => k s7 H7)
theorem qU.link {x0 : Sl} {H : AH} {k : Sl → AH → Prop} (h : qU.b x0 H k) : qU x0 H k := lk1 pan hT hm Tryz.func175 (by kernel_rfl) (A := ann0) (by kernel_rfl) (by simp) (by kernel_rfl) h
def qay.j1 (s9 : Sl) (t3 : Int) (it3 : (Int) → AH → Prop) (o7 : Nat) (Hs2 : AH) (x25 : Bool) : Prop :=
 bcase x25 (elI .i64 (AH.cell? Hs2 (qkN ⟨o7, 0, none⟩ 0)) fun n28 => elI .u64 (AH.cell? Hs2 (qkN ⟨o7, 0, none⟩ 1)) fun n30 => (0 ≤ n28 ∧ n28 < ((s9.n : Nat) : Int)) ∧ onPtr s9.a fun a31 => stC Hs2 (qkN a31 (qkX n28 * 1)) [(qkL .u64 n30)] fun Hs4 => it3 (qkM .i64 (t3 + (1 : Int))) Hs4) (it3 (qkM .i64 (t3 + (1 : Int))) Hs2)
def qay.l2 (x1 : Sl) (k : Sl → AH → Prop) (s9 : Sl) (t3 : Int) (HL3 : AH) (it3 : (Int) → AH → Prop) : Prop :=
 bcase (decide ((t3 : Int) < ((x1.n : Nat) : Int))) ((0 ≤ t3 ∧ t3 < ((x1.n : Nat) : Int)) ∧ onPtr x1.a fun a14 => ldA HL3 (qkN a14 (qkX t3 * 2)) 2 fun c15 => newC HL3 ⟨[(qkL .i64 (0 : Int)), (qkL .u64 (0 : Int))], .rw, 0⟩ fun o7 H7 => (qk0 c15 = 2 ∧ qlo c15 qo = true) ∧ stC H7 ⟨o7, 0, none⟩ c15 fun Hs2 => elI .i64 (AH.cell? Hs2 (qkN ⟨o7, 0, none⟩ 0)) fun n17 => bcase (decide ((n17 : Int) ≥ (0 : Int))) (elI .i64 (AH.cell? Hs2 (qkN ⟨o7, 0, none⟩ 0)) fun n21 => qay.j1 s9 t3 it3 o7 Hs2 (decide ((n21 : Int) < ((s9.n : Nat) : Int)))) (qay.j1 s9 t3 it3 o7 Hs2 false)) (k s9 HL3)
def qay.b (x0 : Sl) (x1 : Sl) (H : AH) (k : Sl → AH → Prop) : Prop :=
 qU x0 H fun s9 H9 => loopT (qay.l2 x1 k s9) (((0 : Int)) : Int) H9
def qay.ann : Ann := { keep := fun r => match r with | 3 => [(12, .int .i64)] | _ => [], ord := fun r => match r with  | _ => [] }
theorem qay.link {x0 : Sl} {x1 : Sl} {H : AH} {k : Sl → AH → Prop} (h : qay.b x0 x1 H k) : qay x0 x1 H k := lk1 pan hT hm Tryz.func148 (by kernel_rfl) (A := qay.ann) (by kernel_rfl) (by simp) (by kernel_rfl) h
def qat.j1 (k : Sl → AH → Prop) (t3 : Sl × Int) (HL3 : AH) : Prop :=
 qb9 t3.1 HL3 fun H23 => qbN t3.1 H23 fun s25 H25 => k s25 H25
def qat.l2 (x0 : Sl) (k : Sl → AH → Prop) (t3 : Sl × Int) (HL3 : AH) (it3 : (Sl × Int) → AH → Prop) : Prop :=
 bcase (decide ((t3.2 : Int) < ((x0.n : Nat) : Int))) ((0 ≤ t3.2 ∧ t3.2 < ((x0.n : Nat) : Int)) ∧ onPtr x0.a fun a10 => ldA HL3 (qkN a10 (qkX t3.2 * 2)) 2 fun c11 => newC HL3 ⟨[(qkL .i64 (0 : Int)), (qkL .u64 (0 : Int))], .rw, 0⟩ fun o5 H5 => (qk0 c11 = 2 ∧ qlo c11 qo = true) ∧ stC H5 ⟨o5, 0, none⟩ c11 fun Hs2 => elI .i64 (AH.cell? Hs2 (qkN ⟨o5, 0, none⟩ 0)) fun n13 => bcase (decide ((n13 : Int) ≥ (0 : Int))) (elI .i64 (AH.cell? Hs2 (qkN ⟨o5, 0, none⟩ 0)) fun n17 => ((8 : Int) : Int) ≠ 0 ∧ newC Hs2 ⟨[(qkL .i64 (qkM .i64 (qmc n17 (8 : Int))))], .rw, 1⟩ fun o19 H19 => appendC 1 H19 t3.1 ⟨(some ⟨o19, 0, none⟩), 1, 1⟩ fun s20 H20 => it3 (s20, (qkM .i64 (t3.2 + (1 : Int)))) H20) (it3 (t3.1, (qkM .i64 (t3.2 + (1 : Int)))) Hs2)) (qat.j1 k t3 HL3)
def qat.b (x0 : Sl) (H : AH) (k : Sl → AH → Prop) : Prop :=
 loopT (qat.l2 x0 k) ((⟨none, 0, 0⟩, (0 : Int)) : Sl × Int) H
def qat.ann : Ann := { keep := fun r => match r with | 3 => [(3, .sl), (8, .int .i64)] | _ => [], ord := fun r => match r with  | _ => [] }
theorem qat.link {x0 : Sl} {H : AH} {k : Sl → AH → Prop} (h : qat.b x0 H k) : qat x0 H k := lk1 pan hT hm Tryz.func149 (by kernel_rfl) (A := qat.ann) (by kernel_rfl) (by simp) (by kernel_rfl) h
def qH.j1 (x0 : Option Addr) (x1 : Sl) (k : Int → AH → Prop) (HL15 : AH) : Prop :=
 onPtr x0 fun a80 => elP (AH.cell? HL15 (qkN a80 0)) fun p82 => qz p82 (1 : Int) (qkM .u64 ((x1.n : Nat) : Int)) HL15 fun n86 H86 => bcase ((n86 : Int) != (0 : Int)) (k n86 H86) (qae x0 x1 H86 fun n92 H92 => k n92 H92)
def qH.l2 (x0 : Option Addr) (x1 : Sl) (k : Int → AH → Prop) (t9 : Sl × Int) (t15 : Int × Int) (HL15 : AH) (it15 : (Int × Int) → AH → Prop) : Prop :=
 bcase (decide ((t15.2 : Int) < ((t9.1.n : Nat) : Int))) ((0 ≤ t15.2 ∧ t15.2 < ((t9.1.n : Nat) : Int)) ∧ onPtr t9.1.a fun a66 => ldA HL15 (qkN a66 (qkX t15.2 * 8)) 8 fun c67 => newC HL15 ⟨[(qkL .u64 (0 : Int)), (qkL .u64 (0 : Int)), (qkL .u64 (0 : Int)), (qkL .u64 (0 : Int)), (qkL .u64 (0 : Int)), (qkL .u64 (0 : Int)), (qkL .u64 (0 : Int)), (qkL .u64 (0 : Int))], .rw, 0⟩ fun o9 H9 => (qk0 c67 = 8 ∧ qlo c67 qo = true) ∧ stC H9 ⟨o9, 0, none⟩ c67 fun Hs6 => onPtr x0 fun a69 => elP (AH.cell? Hs6 (qkN a69 1)) fun p71 => ldA Hs6 ⟨o9, 0, none⟩ 8 fun c73 => qal p71 t15.2 c73 Hs6 fun n74 H74 => bcase ((n74 : Int) != (0 : Int)) (k n74 H74) (it15 (t15.1, (qkM .i64 (t15.2 + (1 : Int)))) H74)) (qH.j1 x0 x1 k HL15)
def qH.l3 (x0 : Option Addr) (x1 : Sl) (k : Int → AH → Prop) (t9 : Sl × Int) (HL9 : AH) (it9 : (Sl × Int) → AH → Prop) : Prop :=
 bcase (decide ((t9.2 : Int) < ((x1.n : Nat) : Int))) ((0 ≤ t9.2 ∧ t9.2 < ((x1.n : Nat) : Int)) ∧ onPtr x1.a fun a43 => ldA HL9 (qkN a43 (qkX t9.2 * 9)) 9 fun c44 => newC HL9 ⟨[(qkL .i64 (0 : Int)), (qkL .u64 (0 : Int)), (qkL .u64 (0 : Int)), (qkL .u64 (0 : Int)), (qkL .u64 (0 : Int)), (qkL .u64 (0 : Int)), (qkL .u64 (0 : Int)), (qkL .u64 (0 : Int)), (qkL .u64 (0 : Int))], .rw, 0⟩ fun o7 H7 => (qk0 c44 = 9 ∧ qlo c44 qo = true) ∧ stC H7 ⟨o7, 0, none⟩ c44 fun Hs2 => ((8 : Int) : Int) ≠ 0 ∧ ((8 : Int) : Int) ≠ 0 ∧ elI .i64 (AH.cell? Hs2 (qkN ⟨o7, 0, none⟩ 0)) fun n51 => (0 ≤ (qkM .i64 (qmc t9.2 (8 : Int))) ∧ (qkM .i64 (qmc t9.2 (8 : Int))) < ((t9.1.n : Nat) : Int)) ∧ onPtr t9.1.a fun a53 => (0 ≤ (qlM t9.2 (8 : Int)) ∧ (qlM t9.2 (8 : Int)) < ((8 : Nat) : Int)) ∧ stC Hs2 (qkN (qkN a53 (qkX (qkM .i64 (qmc t9.2 (8 : Int))) * 8)) (qkX (qlM t9.2 (8 : Int)) * 1)) [(qkL .u64 (qkM .u64 n51))] fun Hs4 => ldA Hs4 (qkN ⟨o7, 0, none⟩ 1) 8 fun c57 => (qk0 c57 = 8) ∧ newC Hs4 ⟨(setMany [(qkL .u64 (0 : Int)), (qkL .u64 (0 : Int)), (qkL .u64 (0 : Int)), (qkL .u64 (0 : Int)), (qkL .u64 (0 : Int)), (qkL .u64 (0 : Int)), (qkL .u64 (0 : Int)), (qkL .u64 (0 : Int))] 0 c57), .rw, 8⟩ fun o58 H58 => appendC 8 H58 t9.1 ⟨(some ⟨o58, 0, none⟩), 1, 1⟩ fun s59 H59 => it9 (s59, (qkM .i64 (t9.2 + (1 : Int)))) H59) (loopT (qH.l2 x0 x1 k t9) (((0 : Int), (0 : Int)) : Int × Int) HL9)
def qH.j4 (x0 : Option Addr) (x1 : Sl) (k : Int → AH → Prop) (x12 : Bool) (Hj : AH) : Prop :=
 bcase x12 (k (1 : Int) Hj) (onPtr x0 fun a27 => elP (AH.cell? Hj (qkN a27 0)) fun p29 => qW p29 Hj fun b30 H30 => bcase b30 (k (2 : Int) H30) (qbm x0 H30 fun b33 H33 => bcase b33 (k (5 : Int) H33) (qbY ((x1.n : Nat) : Int) H33 fun n36 H36 => (0 ≤ n36 ∧ n36 ≤ (16 : Int) ∧ (16 : Int) ≤ (lim : Int)) ∧ newC H36 ⟨zerosOf (qkX n36) [(qkL .u64 (0 : Int)), (qkL .u64 (0 : Int)), (qkL .u64 (0 : Int)), (qkL .u64 (0 : Int)), (qkL .u64 (0 : Int)), (qkL .u64 (0 : Int)), (qkL .u64 (0 : Int)), (qkL .u64 (0 : Int))], .rw, 8⟩ fun o37 H37 => loopT (qH.l3 x0 x1 k) ((⟨(some ⟨o37, 0, none⟩), (qkX n36), 1⟩, (0 : Int)) : Sl × Int) H37)))
def qH.b (x0 : Option Addr) (x1 : Sl) (H : AH) (k : Int → AH → Prop) : Prop :=
 bcase (qlj x0) (qH.j4 x0 x1 k true H) (onPtr x0 fun a17 => elP (AH.cell? H (qkN a17 1)) fun p19 => qau p19 H fun n20 H20 => log_May n20 x1 H20 fun b22 H22 => qH.j4 x0 x1 k (!b22) H22)
def qH.ann : Ann := { keep := fun r => match r with | 9 => [(5, .sl), (40, .int .i64)] | 15 => [(4, .int .i64), (63, .int .i64)] | _ => [], ord := fun r => match r with | 11 => [0, 1, 2, 3, 4, 5, 6, 7, 8, 9, 10] | 17 => [0, 1, 2, 3, 4, 5, 6, 7] | _ => [] }
theorem qH.link {x0 : Option Addr} {x1 : Sl} {H : AH} {k : Int → AH → Prop} (h : qH.b x0 x1 H k) : qH x0 x1 H k := lk1 pan hT hm Tryz.func150 (by kernel_rfl) (A := qH.ann) (by kernel_rfl) (by simp) (by kernel_rfl) h
def qbi.b (x0 : Option Addr) (x1 : Int) (H : AH) (k : Bool → AH → Prop) : Prop :=
 bcase (!(qlj x0)) (bcase (decide ((x1 : Int) ≥ (0 : Int))) (onPtr x0 fun a14 => elL (AH.cell? H (qkN a14 1)) fun s16 => k (decide ((x1 : Int) < ((s16.n : Nat) : Int))) H) (k false H)) (k false H)
theorem qbi.link {x0 : Option Addr} {x1 : Int} {H : AH} {k : Bool → AH → Prop} (h : qbi.b x0 x1 H k) : qbi x0 x1 H k := lk1 pan hT hm Tryz.func178 (by kernel_rfl) (A := ann0) (by kernel_rfl) (by simp) (by kernel_rfl) h
def qa2.b (x0 : Option Addr) (x1 : Int) (H : AH) (k : Int → AH → Prop) : Prop :=
 qbi x0 x1 H fun b7 H7 => bcase (!b7) (k (0 : Int) H7) (onPtr x0 fun a10 => elL (AH.cell? H7 (qkN a10 1)) fun s12 => (0 ≤ x1 ∧ x1 < ((s12.n : Nat) : Int)) ∧ onPtr s12.a fun a14 => elI .i64 (AH.cell? H7 (qkN a14 (qkX x1 * 1))) fun n15 => onPtr x0 fun a17 => elL (AH.cell? H7 (qkN a17 2)) fun s19 => (0 ≤ x1 ∧ x1 < ((s19.n : Nat) : Int)) ∧ onPtr s19.a fun a21 => elI .i64 (AH.cell? H7 (qkN a21 (qkX x1 * 1))) fun n22 => k (qkM .i64 (n15 - n22)) H7)
def qa2.ann : Ann := { keep := fun r => match r with  | _ => [], ord := fun r => match r with | 3 => [0, 1, 2, 3, 4, 5, 6, 7, 8, 9, 10, 11, 12, 13, 14, 15] | _ => [] }
theorem qa2.link {x0 : Option Addr} {x1 : Int} {H : AH} {k : Int → AH → Prop} (h : qa2.b x0 x1 H k) : qa2 x0 x1 H k := lk1 pan hT hm Tryz.func179 (by kernel_rfl) (A := qa2.ann) (by kernel_rfl) (by simp) (by kernel_rfl) h
def qaa.j1 (x0 : Option Addr) (x1 : Int) (k : Int → Bool → AH → Prop) (n26 : Int) (n22 : Int) (Hj : AH) : Prop :=
 onPtr x0 fun a43 => elL (AH.cell? Hj (qkN a43 1)) fun s45 => (0 ≤ x1 ∧ x1 < ((s45.n : Nat) : Int)) ∧ onPtr s45.a fun a47 => elI .i64 (AH.cell? Hj (qkN a47 (qkX x1 * 1))) fun n48 => k n48 (decide ((n22 : Int) ≥ n26)) Hj
def qaa.b (x0 : Option Addr) (x1 : Int) (H : AH) (k : Int → Bool → AH → Prop) : Prop :=
 qbi x0 x1 H fun b9 H9 => bcase (!b9) (k (0 : Int) false H9) (onPtr x0 fun a12 => elL (AH.cell? H9 (qkN a12 1)) fun s14 => (0 ≤ x1 ∧ x1 < ((s14.n : Nat) : Int)) ∧ onPtr s14.a fun a16 => elI .i64 (AH.cell? H9 (qkN a16 (qkX x1 * 1))) fun n17 => (0 ≤ x1 ∧ x1 < ((s14.n : Nat) : Int)) ∧ onPtr s14.a fun a19 => stC H9 (qkN a19 (qkX x1 * 1)) [(qkL .i64 (qkM .i64 (n17 + (1 : Int))))] fun Hs2 => onPtr x0 fun a24 => elI .i64 (AH.cell? Hs2 (qkN a24 0)) fun n26 => qa2 x0 x1 Hs2 fun n22 H22 => AH.cell? H22 (qkN a24 0) = some (qkL .i64 n26) ∧ bcase (decide ((n22 : Int) ≥ n26)) (onPtr x0 fun a30 => elL (AH.cell? H22 (qkN a30 2)) fun s32 => onPtr x0 fun a35 => elL (AH.cell? H22 (qkN a35 1)) fun s37 => (0 ≤ x1 ∧ x1 < ((s37.n : Nat) : Int)) ∧ onPtr s37.a fun a39 => elI .i64 (AH.cell? H22 (qkN a39 (qkX x1 * 1))) fun n40 => (0 ≤ x1 ∧ x1 < ((s32.n : Nat) : Int)) ∧ onPtr s32.a fun a41 => stC H22 (qkN a41 (qkX x1 * 1)) [(qkL .i64 n40)] fun Hs4 => qaa.j1 x0 x1 k n26 n22 Hs4) (qaa.j1 x0 x1 k n26 n22 H22))
def qaa.ann : Ann := { keep := fun r => match r with  | _ => [], ord := fun r => match r with | 4 => [0, 1, 3, 4, 5, 6, 2, 7, 8] | 6 => [0, 1, 2, 3, 4, 5, 6, 7, 8, 9, 10, 11, 12, 13] | _ => [] }
theorem qaa.link {x0 : Option Addr} {x1 : Int} {H : AH} {k : Int → Bool → AH → Prop} (h : qaa.b x0 x1 H k) : qaa x0 x1 H k := lk2 pan hT hm Tryz.func151 (by kernel_rfl) (A := qaa.ann) (by kernel_rfl) (by simp) (by simp) (by kernel_rfl) h
def qx.l1 (x0 : Option Addr) (k : AH → Prop) (pk : Value → AH → Prop) (s59 : Sl) (t11 : Int) (HL11 : AH) (it11 : (Int) → AH → Prop) : Prop :=
 bcase (decide ((t11 : Int) < ((s59.n : Nat) : Int))) ((0 ≤ t11 ∧ t11 < ((s59.n : Nat) : Int)) ∧ onPtr s59.a fun a63 => elI .i64 (AH.cell? HL11 (qkN a63 (qkX t11 * 1))) fun n64 => qbV n64 HL11 fun n66 H66 => onPtr x0 fun a69 => elP (AH.cell? H66 (qkN a69 7)) fun p71 => qaa p71 n66 H66 fun n73a b73b H73 => bcase b73b (onPtr x0 fun a78 => elP (AH.cell? H73 (qkN a78 0)) fun p80 => qz p80 (qkM .i64 ((19 : Int) + n66)) (qkM .u64 n73a) H73 fun n85 H85 => qY n85 H85 (fun pv86 Hp86 => pk pv86 Hp86) fun H86 => it11 (qkM .i64 (t11 + (1 : Int))) H86) (it11 (qkM .i64 (t11 + (1 : Int))) H73)) (k HL11)
def qx.j2 (x0 : Option Addr) (x2 : Sl) (k : AH → Prop) (pk : Value → AH → Prop) (n44 : Int) (Hj : AH) : Prop :=
 qY n44 Hj (fun pv57 Hp57 => pk pv57 Hp57) fun H57 => qat x2 H57 fun s59 H59 => loopT (qx.l1 x0 k pk s59) (((0 : Int)) : Int) H59
def qx.j3 (x0 : Option Addr) (x2 : Sl) (k : AH → Prop) (pk : Value → AH → Prop) (t3 : Sl × Int) (HL3 : AH) : Prop :=
 onPtr x0 fun a40 => elP (AH.cell? HL3 (qkN a40 6)) fun p42 => qH p42 t3.1 HL3 fun n44 H44 => onPtr x0 fun a47 => elB (AH.cell? H44 (qkN a47 8)) fun b49 => bcase b49 (onPtr x0 fun a54 => stC H44 (qkN a54 8) [(qlK true)] fun Hs2 => qx.j2 x0 x2 k pk n44 Hs2) (onPtr x0 fun a54 => stC H44 (qkN a54 8) [(qlK ((n44 : Int) == (3 : Int)))] fun Hs4 => qx.j2 x0 x2 k pk n44 Hs4)
def qx.l4 (x0 : Option Addr) (x2 : Sl) (k : AH → Prop) (pk : Value → AH → Prop) (s17 : Sl) (s19 : Sl) (t3 : Sl × Int) (HL3 : AH) (it3 : (Sl × Int) → AH → Prop) : Prop :=
 bcase (decide ((t3.2 : Int) < ((s19.n : Nat) : Int))) ((0 ≤ t3.2 ∧ t3.2 < ((s19.n : Nat) : Int)) ∧ onPtr s19.a fun a23 => elI .i64 (AH.cell? HL3 (qkN a23 (qkX t3.2 * 1))) fun n24 => onPtr x0 fun a27 => ldA HL3 (qkN a27 1) 4 fun c29 => qa4 c29 n24 HL3 fun n31 H31 => qaU s17 n24 H31 fun c34 H34 => (qk0 c34 = 8) ∧ (qk0 (setMany [(qkL .i64 n31), (qkL .u64 (0 : Int)), (qkL .u64 (0 : Int)), (qkL .u64 (0 : Int)), (qkL .u64 (0 : Int)), (qkL .u64 (0 : Int)), (qkL .u64 (0 : Int)), (qkL .u64 (0 : Int)), (qkL .u64 (0 : Int))] 1 c34) = 9) ∧ newC H34 ⟨(setMany [(qkL .i64 (0 : Int)), (qkL .u64 (0 : Int)), (qkL .u64 (0 : Int)), (qkL .u64 (0 : Int)), (qkL .u64 (0 : Int)), (qkL .u64 (0 : Int)), (qkL .u64 (0 : Int)), (qkL .u64 (0 : Int)), (qkL .u64 (0 : Int))] 0 (setMany [(qkL .i64 n31), (qkL .u64 (0 : Int)), (qkL .u64 (0 : Int)), (qkL .u64 (0 : Int)), (qkL .u64 (0 : Int)), (qkL .u64 (0 : Int)), (qkL .u64 (0 : Int)), (qkL .u64 (0 : Int)), (qkL .u64 (0 : Int))] 1 c34)), .rw, 9⟩ fun o36 H36 => appendC 9 H36 t3.1 ⟨(some ⟨o36, 0, none⟩), 1, 1⟩ fun s37 H37 => it3 (s37, (qkM .i64 (t3.2 + (1 : Int)))) H37) (qx.j3 x0 x2 k pk t3 HL3)
def qx.b (x0 : Option Addr) (x1 : Sl) (x2 : Sl) (H : AH) (pk : Value → AH → Prop) (k : AH → Prop) : Prop :=
 qay x1 x2 H fun s17 H17 => qat x2 H17 fun s19 H19 => loopT (qx.l4 x0 x2 k pk s17 s19) ((⟨none, 0, 0⟩, (0 : Int)) : Sl × Int) H19
def qx.ann : Ann := { keep := fun r => match r with | 3 => [(6, .sl), (21, .int .i64)] | 11 => [(61, .int .i64)] | _ => [], ord := fun r => match r with  | _ => [] }
theorem qx.link {x0 : Option Addr} {x1 : Sl} {x2 : Sl} {H : AH} {pk : Value → AH → Prop} {k : AH → Prop} (h : qx.b x0 x1 x2 H pk k) : qx x0 x1 x2 H pk k := lk0 pan hT hm Tryz.func114 (by kernel_rfl) (A := qx.ann) (by kernel_rfl) (by kernel_rfl) h
def qbD.b (x0 : Option Addr) (x1 : Int) (H : AH) (pk : Value → AH → Prop) (k : Int → AH → Prop) : Prop :=
 qaC x0 H (fun pv10 Hp10 => pk pv10 Hp10) fun s10 H10 => qbz x1 H10 fun n12 H12 => bcase ((n12 : Int) == (0 : Int)) (pk (Value.iface 31 (qkL .i64 (1 : Int))) H12) (qag x0 H12 (fun pv16 Hp16 => pk pv16 Hp16) fun H16 => onPtr x0 fun a21 => elP (AH.cell? H16 (qkN a21 7)) fun p23 => qbE p23 H16 fun s24 H24 => qbu s10 x1 s24 H24 fun s25a n25b n25c H25 => qY n25c H25 (fun pv30 Hp30 => pk pv30 Hp30) fun H30 => qx x0 s10 s25a H30 (fun pv34 Hp34 => pk pv34 Hp34) fun H34 => k n25b H34)
theorem qbD.link {x0 : Option Addr} {x1 : Int} {H : AH} {pk : Value → AH → Prop} {k : Int → AH → Prop} (h : qbD.b x0 x1 H pk k) : qbD x0 x1 H pk k := lk1 pan hT hm Tryz.func64 (by kernel_rfl) (A := ann0) (by kernel_rfl) (by simp) (by kernel_rfl) h
def qac.j1 (k : Int → AH → Prop) (t3 : Int × Int × Int) (it3 : (Int × Int × Int) → AH → Prop) (o5 : Nat) (H14 : AH) (x19 : Bool) : Prop :=
 bcase x19 (k (0 : Int) H14) (elI .i64 (AH.cell? H14 (qkN ⟨o5, 0, none⟩ 1)) fun n22 => it3 (t3.1, (qkM .i64 (t3.2.1 + n22)), (qkM .i64 (t3.2.2 + (1 : Int)))) H14)
def qac.l2 (x0 : Sl) (k : Int → AH → Prop) (t3 : Int × Int × Int) (HL3 : AH) (it3 : (Int × Int × Int) → AH → Prop) : Prop :=
 bcase (decide ((t3.2.2 : Int) < ((x0.n : Nat) : Int))) ((0 ≤ t3.2.2 ∧ t3.2.2 < ((x0.n : Nat) : Int)) ∧ onPtr x0.a fun a10 => ldA HL3 (qkN a10 (qkX t3.2.2 * 3)) 3 fun c11 => newC HL3 ⟨[(qkL .i64 (0 : Int)), (qkL .i64 (0 : Int)), (qlK false)], .rw, 0⟩ fun o5 H5 => (qk0 c11 = 3 ∧ qlo c11 qo = true) ∧ stC H5 ⟨o5, 0, none⟩ c11 fun Hs2 => elI .i64 (AH.cell? Hs2 (qkN ⟨o5, 0, none⟩ 1)) fun n13 => qaW n13 Hs2 fun b14 H14 => bcase (!b14) (qac.j1 k t3 it3 o5 H14 true) (qac.j1 k t3 it3 o5 H14 (decide ((t3.2.1 : Int) > (512 : Int))))) (k t3.2.1 HL3)
def qac.b (x0 : Sl) (H : AH) (k : Int → AH → Prop) : Prop :=
 loopT (qac.l2 x0 k) (((0 : Int), (0 : Int), (0 : Int)) : Int × Int × Int) H
def qac.ann : Ann := { keep := fun r => match r with | 3 => [(2, .int .i64), (3, .int .i64), (8, .int .i64)] | _ => [], ord := fun r => match r with  | _ => [] }
theorem qac.link {x0 : Sl} {H : AH} {k : Int → AH → Prop} (h : qac.b x0 H k) : qac x0 H k := lk1 pan hT hm Tryz.func181 (by kernel_rfl) (A := qac.ann) (by kernel_rfl) (by simp) (by kernel_rfl) h
def qw.j1 (x1 : Int) (k : Int → Int → Bool → AH → Prop) (H10 : AH) (x4 : Int) (x57 : Bool) : Prop :=
 bcase x57 (k x4 (qkM .i64 ((qkM .i64 (x1 + (1 : Int))) + (1 : Int))) true H10) (k x4 (qkM .i64 (x1 + (1 : Int))) true H10)
def qw.j2 (x0 : Sl) (x1 : Int) (k : Int → Int → Bool → AH → Prop) (H10 : AH) (x4 : Int) : Prop :=
 bcase (decide (((qkM .i64 (x1 + (1 : Int))) : Int) < ((x0.n : Nat) : Int))) ((0 ≤ (qkM .i64 (x1 + (1 : Int))) ∧ (qkM .i64 (x1 + (1 : Int))) < ((x0.n : Nat) : Int)) ∧ onPtr x0.a fun a53 => elB (AH.cell? H10 (qkN (qkN a53 (qkX (qkM .i64 (x1 + (1 : Int))) * 3)) 2)) fun b55 => qw.j1 x1 k H10 x4 (!b55)) (qw.j1 x1 k H10 x4 false)
def qw.j3 (x0 : Sl) (x1 : Int) (k : Int → Int → Bool → AH → Prop) (H10 : AH) (x43 : Bool) : Prop :=
 bcase x43 (qw.j2 x0 x1 k H10 (qkM .i64 (x1 - (1 : Int)))) (qw.j2 x0 x1 k H10 x1)
def qw.j4 (x0 : Sl) (x1 : Int) (k : Int → Int → Bool → AH → Prop) (H10 : AH) (x29 : Bool) : Prop :=
 bcase x29 (k (0 : Int) (0 : Int) false H10) (bcase (decide ((x1 : Int) > (0 : Int))) ((0 ≤ (qkM .i64 (x1 - (1 : Int))) ∧ (qkM .i64 (x1 - (1 : Int))) < ((x0.n : Nat) : Int)) ∧ onPtr x0.a fun a39 => elB (AH.cell? H10 (qkN (qkN a39 (qkX (qkM .i64 (x1 - (1 : Int))) * 3)) 2)) fun b41 => qw.j3 x0 x1 k H10 (!b41)) (qw.j3 x0 x1 k H10 false))
def qw.b (x0 : Sl) (x1 : Int) (H : AH) (k : Int → Int → Bool → AH → Prop) : Prop :=
 qac x0 H fun n9 H9 => qQ x0 n9 H9 fun b10 H10 => bcase (!b10) (qw.j4 x0 x1 k H10 true) (bcase (decide ((x1 : Int) < (0 : Int))) (qw.j4 x0 x1 k H10 true) (bcase (decide ((x1 : Int) ≥ ((x0.n : Nat) : Int))) (qw.j4 x0 x1 k H10 true) ((0 ≤ x1 ∧ x1 < ((x0.n : Nat) : Int)) ∧ onPtr x0.a fun a25 => elB (AH.cell? H10 (qkN (qkN a25 (qkX x1 * 3)) 2)) fun b27 => qw.j4 x0 x1 k H10 (!b27))))
theorem qw.link {x0 : Sl} {x1 : Int} {H : AH} {k : Int → Int → Bool → AH → Prop} (h : qw.b x0 x1 H k) : qw x0 x1 H k := lk3 pan hT hm Tryz.func180 (by kernel_rfl) (A := ann0) (by kernel_rfl) (by simp) (by simp) (by simp) (by kernel_rfl) h
def qaQ.b (x0 : Sl) (x1 : Int) (H : AH) (k : List Value → Bool → AH → Prop) : Prop :=
 newC H ⟨[(qkL .i64 (0 : Int)), (qkL .u64 (0 : Int))], .rw, 0⟩ fun o4 H4 => qw x0 x1 H4 fun n12a n12b b12c H12 => bcase (!b12c) ((qk0 [(qkL .i64 (0 : Int)), (qkL .u64 (0 : Int))] = 2 ∧ qlo [(qkL .i64 (0 : Int)), (qkL .u64 (0 : Int))] qo = true) ∧ stC H12 ⟨o4, 0, none⟩ [(qkL .i64 (0 : Int)), (qkL .u64 (0 : Int))] fun Hs2 => ldA Hs2 ⟨o4, 0, none⟩ 2 fun r0 => k r0 false Hs2) ((0 ≤ n12a ∧ n12a < ((x0.n : Nat) : Int)) ∧ onPtr x0.a fun a21 => elI .i64 (AH.cell? H12 (qkN (qkN a21 (qkX n12a * 3)) 0)) fun n23 => (0 ≤ n12a ∧ n12a ≤ n12b ∧ n12b ≤ ((x0.n : Nat) : Int)) ∧ qac ⟨(Option.map (fun x => qkN x (qkX n12a * 3)) x0.a), (qkX n12b - qkX n12a), 0⟩ H12 fun n28 H28 => AH.cell? H28 (qkN (qkN a21 (qkX n12a * 3)) 0) = some (qkL .i64 n23) ∧ qbk n28 false H28 fun n29 H29 => AH.cell? H29 (qkN (qkN a21 (qkX n12a * 3)) 0) = some (qkL .i64 n23) ∧ (qk0 [(qkL .i64 n23), (qkL .u64 n29)] = 2 ∧ qlo [(qkL .i64 n23), (qkL .u64 n29)] qo = true) ∧ stC H29 ⟨o4, 0, none⟩ [(qkL .i64 n23), (qkL .u64 n29)] fun Hs4 => ldA Hs4 ⟨o4, 0, none⟩ 2 fun r0 => k r0 true Hs4)
def qaQ.ann : Ann := { keep := fun r => match r with  | _ => [], ord := fun r => match r with | 4 => [0, 1, 2, 3, 4, 5, 6, 7, 8, 9, 10, 11, 12, 13] | _ => [] }
theorem qaQ.link {x0 : Sl} {x1 : Int} {H : AH} {k : List Value → Bool → AH → Prop} (h : qaQ.b x0 x1 H k) : qaQ x0 x1 H k := lk2 pan hT hm Tryz.func152 (by kernel_rfl) (A := qaQ.ann) (by kernel_rfl) (by simp) (by simp) (by kernel_rfl) h
def qb7.b (x0 : Sl) (x1 : Int) (H : AH) (k : Sl → Int → AH → Prop) : Prop :=
 qbH x0 x1 H fun s13a n13b H13 => bcase ((((s13a.n : Nat) : Int) : Int) == (0 : Int)) (k ⟨none, 0, 0⟩ (6 : Int) H13) (qaQ s13a n13b H13 fun c22a b22b H22 => newC H22 ⟨[(qkL .i64 (0 : Int)), (qkL .u64 (0 : Int))], .rw, 0⟩ fun o8 H8 => (qk0 c22a = 2 ∧ qlo c22a qo = true) ∧ stC H8 ⟨o8, 0, none⟩ c22a fun Hs2 => bcase (!b22b) (k ⟨none, 0, 0⟩ (1 : Int) Hs2) (ldA Hs2 ⟨o8, 0, none⟩ 2 fun c27 => (qk0 c27 = 2) ∧ newC Hs2 ⟨(setMany [(qkL .i64 (0 : Int)), (qkL .u64 (0 : Int))] 0 c27), .rw, 2⟩ fun o28 H28 => k ⟨(some ⟨o28, 0, none⟩), 1, 1⟩ (0 : Int) H28))
theorem qb7.link {x0 : Sl} {x1 : Int} {H : AH} {k : Sl → Int → AH → Prop} (h : qb7.b x0 x1 H k) : qb7 x0 x1 H k := lk2 pan hT hm Tryz.func115 (by kernel_rfl) (A := ann0) (by kernel_rfl) (by simp) (by simp) (by kernel_rfl) h
def qbc.b (x0 : Option Addr) (H : AH) (pk : Value → AH → Prop) (k : Int → AH → Prop) : Prop :=
 onPtr x0 fun a7 => elP (AH.cell? H (qkN a7 0)) fun p9 => qE p9 (2 : Int) H fun n10a n10b H10 => qY n10b H10 (fun pv14 Hp14 => pk pv14 Hp14) fun H14 => k (qkM .i64 n10a) H14
theorem qbc.link {x0 : Option Addr} {H : AH} {pk : Value → AH → Prop} {k : Int → AH → Prop} (h : qbc.b x0 H pk k) : qbc x0 H pk k := lk1 pan hT hm Tryz.func69 (by kernel_rfl) (A := ann0) (by kernel_rfl) (by simp) (by kernel_rfl) h
def qbQ.b (x0 : Option Addr) (x1 : Int) (H : AH) (pk : Value → AH → Prop) (k : AH → Prop) : Prop :=
 qaC x0 H (fun pv8 Hp8 => pk pv8 Hp8) fun s8 H8 => qb7 s8 x1 H8 fun s12a n12b H12 => qY n12b H12 (fun pv16 Hp16 => pk pv16 Hp16) fun H16 => qbc x0 H16 (fun pv18 Hp18 => pk pv18 Hp18) fun n18 H18 => bcase ((n18 : Int) == x1) (pk (Value.iface 31 (qkL .i64 (5 : Int))) H18) (qag x0 H18 (fun pv23 Hp23 => pk pv23 Hp23) fun H23 => qx x0 s8 s12a H23 (fun pv27 Hp27 => pk pv27 Hp27) fun H27 => k H27)
theorem qbQ.link {x0 : Option Addr} {x1 : Int} {H : AH} {pk : Value → AH → Prop} {k : AH → Prop} (h : qbQ.b x0 x1 H pk k) : qbQ x0 x1 H pk k := lk0 pan hT hm Tryz.func65 (by kernel_rfl) (A := ann0) (by kernel_rfl) (by kernel_rfl) h
def qaY.b (x0 : List Value) (x1 : Option Addr) (x2 : Option Addr) (H : AH) (k : Bool → AH → Prop) : Prop :=
 newC H ⟨x0, .rw, 0⟩ fun o3 H3 => elB (AH.cell? H3 (qkN ⟨o3, 0, none⟩ 2)) fun b6 => bcase b6 (onPtr x1 fun a8 => elI .i64 (AH.cell? H3 a8) fun n8 => ldA H3 ⟨o3, 0, none⟩ 3 fun c9 => qaV c9 H3 fun n10 H10 => AH.cell? H10 a8 = some (qkL .i64 n8) ∧ bcase (decide ((n8 : Int) ≥ n10)) (onPtr x1 fun a14 => elI .i64 (AH.cell? H10 a14) fun n14 => elI .i64 (AH.cell? H10 (qkN ⟨o3, 0, none⟩ 0)) fun n16 => elI .i64 (AH.cell? H10 (qkN ⟨o3, 0, none⟩ 1)) fun n18 => onPtr x2 fun a21 => elI .i64 (AH.cell? H10 a21) fun n21 => k (decide ((n14 : Int) ≤ (qkM .i64 ((qkM .i64 ((qkM .i64 (n16 + n18)) * (8 : Int))) - n21)))) H10) (k false H10)) (k false H3)
def qaY.ann : Ann := { keep := fun r => match r with  | _ => [], ord := fun r => match r with | 1 => [0, 1, 2, 3, 4, 5, 6, 7, 8, 9, 10, 11, 12, 13, 14, 15, 16, 17, 18, 19, 20] | _ => [] }
theorem qaY.link {x0 : List Value} {x1 : Option Addr} {x2 : Option Addr} {H : AH} {k : Bool → AH → Prop} (h : qaY.b x0 x1 x2 H k) : qaY x0 x1 x2 H k := lk1 pan hT hm Tryz.func193 (by kernel_rfl) (A := qaY.ann) (by kernel_rfl) (by simp) (by kernel_rfl) h
def qaZ.j1 (x0 : Sl) (k : Bool → AH → Prop) (o4 : Nat) (o5 : Nat) (H5 : AH) (x14 : Bool) : Prop :=
 bcase x14 (k false H5) (qI x0 H5 fun s17a b17b H17 => qF s17a (some ⟨o4, 0, none⟩) (some ⟨o5, 0, none⟩) H17 fun b22 H22 => k b22 H22)
def qaZ.b (x0 : Sl) (x1 : Int) (x2 : Int) (H : AH) (k : Bool → AH → Prop) : Prop :=
 newC H ⟨[(qkL .i64 x1)], .rw, 0⟩ fun o4 H4 => newC H4 ⟨[(qkL .i64 x2)], .rw, 0⟩ fun o5 H5 => elI .i64 (AH.cell? H5 ⟨o5, 0, none⟩) fun n9 => bcase (decide ((n9 : Int) < (0 : Int))) (qaZ.j1 x0 k o4 o5 H5 true) (elI .i64 (AH.cell? H5 ⟨o5, 0, none⟩) fun n12 => qaZ.j1 x0 k o4 o5 H5 (decide ((n12 : Int) > (448 : Int))))
theorem qaZ.link {x0 : Sl} {x1 : Int} {x2 : Int} {H : AH} {k : Bool → AH → Prop} (h : qaZ.b x0 x1 x2 H k) : qaZ x0 x1 x2 H k := lk1 pan hT hm Tryz.func182 (by kernel_rfl) (A := ann0) (by kernel_rfl) (by simp) (by kernel_rfl) h
def qbs.b (x0 : Sl) (x1 : Int) (x2 : Int) (H : AH) (k : Int → AH → Prop) : Prop :=
 qI x0 H fun s11a b11b H11 => bcase (!b11b) (k (6 : Int) H11) (qaZ x0 x1 x2 H11 fun b19 H19 => bcase (!b19) (k (1 : Int) H19) (k (0 : Int) H19))
theorem qbs.link {x0 : Sl} {x1 : Int} {x2 : Int} {H : AH} {k : Int → AH → Prop} (h : qbs.b x0 x1 x2 H k) : qbs x0 x1 x2 H k := lk1 pan hT hm Tryz.func153 (by kernel_rfl) (A := ann0) (by kernel_rfl) (by simp) (by kernel_rfl) h
def qbt.b (x0 : Sl) (x1 : Int) (x2 : Int) (H : AH) (k : Bool → AH → Prop) : Prop :=
 bcase (decide ((x1 : Int) ≥ (0 : Int))) (bcase (decide ((x2 : Int) ≥ (0 : Int))) (bcase (decide ((x2 : Int) ≤ (448 : Int))) (k (decide ((x1 : Int) ≤ (qkM .i64 ((qkM .i64 (((x0.n : Nat) : Int) * (8 : Int))) - x2)))) H) (k false H)) (k false H)) (k false H)
theorem qbt.link {x0 : Sl} {x1 : Int} {x2 : Int} {H : AH} {k : Bool → AH → Prop} (h : qbt.b x0 x1 x2 H k) : qbt x0 x1 x2 H k := lk1 pan hT hm Tryz.func183 (by kernel_rfl) (A := ann0) (by kernel_rfl) (by simp) (by kernel_rfl) h
def qbr.l1 (x0 : Sl) (x1 : Int) (x2 : Int) (k : Sl → Bool → AH → Prop) (t5 : Sl × Int) (HL5 : AH) (it5 : (Sl × Int) → AH → Prop) : Prop :=
 bcase (decide ((t5.2 : Int) < (qkM .i64 (x1 + x2)))) (((8 : Int) : Int) ≠ 0 ∧ (0 ≤ (qkM .i64 (qmc t5.2 (8 : Int))) ∧ (qkM .i64 (qmc t5.2 (8 : Int))) < ((x0.n : Nat) : Int)) ∧ onPtr x0.a fun a27 => elI .u64 (AH.cell? HL5 (qkN a27 (qkX (qkM .i64 (qmc t5.2 (8 : Int))) * 1))) fun n28 => ((8 : Int) : Int) ≠ 0 ∧ (0 : Int) ≤ (qkM .i64 ((qlM t5.2 (8 : Int)) * (8 : Int))) ∧ newC HL5 ⟨[(qkL .u8 (qkM .u8 (shrI .u64 n28 (qkM .i64 ((qlM t5.2 (8 : Int)) * (8 : Int))))))], .rw, 1⟩ fun o34 H34 => appendC 1 H34 t5.1 ⟨(some ⟨o34, 0, none⟩), 1, 1⟩ fun s35 H35 => it5 (s35, (qkM .i64 (t5.2 + (1 : Int)))) H35) (k t5.1 true HL5)
def qbr.b (x0 : Sl) (x1 : Int) (x2 : Int) (H : AH) (k : Sl → Bool → AH → Prop) : Prop :=
 qbt x0 x1 x2 H fun b13 H13 => bcase (!b13) (k ⟨none, 0, 0⟩ false H13) (loopT (qbr.l1 x0 x1 x2 k) ((⟨none, 0, 0⟩, x1) : Sl × Int) H13)
def qbr.ann : Ann := { keep := fun r => match r with | 5 => [(8, .sl), (9, .int .i64)] | _ => [], ord := fun r => match r with  | _ => [] }
theorem qbr.link {x0 : Sl} {x1 : Int} {x2 : Int} {H : AH} {k : Sl → Bool → AH → Prop} (h : qbr.b x0 x1 x2 H k) : qbr x0 x1 x2 H k := lk2 pan hT hm Tryz.func154 (by kernel_rfl) (A := qbr.ann) (by kernel_rfl) (by simp) (by simp) (by kernel_rfl) h
def qb6.b (x0 : Sl) (x1 : Int) (x2 : Int) (H : AH) (k : Sl → Int → AH → Prop) : Prop :=
 qbs x0 x1 x2 H fun n14 H14 => bcase ((n14 : Int) != (0 : Int)) (k ⟨none, 0, 0⟩ n14 H14) (qbr x0 x1 x2 H14 fun s22a b22b H22 => k s22a (0 : Int) H22)
theorem qb6.link {x0 : Sl} {x1 : Int} {x2 : Int} {H : AH} {k : Sl → Int → AH → Prop} (h : qb6.b x0 x1 x2 H k) : qb6 x0 x1 x2 H k := lk2 pan hT hm Tryz.func116 (by kernel_rfl) (A := ann0) (by kernel_rfl) (by simp) (by simp) (by kernel_rfl) h
def qbP.b (x0 : Option Addr) (x1 : Int) (x2 : Int) (H : AH) (pk : Value → AH → Prop) (k : Sl → AH → Prop) : Prop :=
 qaC x0 H (fun pv11 Hp11 => pk pv11 Hp11) fun s11 H11 => qb6 s11 x1 x2 H11 fun s14a n14b H14 => qY n14b H14 (fun pv18 Hp18 => pk pv18 Hp18) fun H18 => k s14a H18
theorem qbP.link {x0 : Option Addr} {x1 : Int} {x2 : Int} {H : AH} {pk : Value → AH → Prop} {k : Sl → AH → Prop} (h : qbP.b x0 x1 x2 H pk k) : qbP x0 x1 x2 H pk k := lk1 pan hT hm Tryz.func66 (by kernel_rfl) (A := ann0) (by kernel_rfl) (by simp) (by kernel_rfl) h
def qV.j1 (x1 : Int) (t5 : Sl × Int) (it5 : (Sl × Int) → AH → Prop) (n25 : Int) (x8 : Sl) (Hj : AH) : Prop :=
 (0 ≤ (qkM .i64 (((x8.n : Nat) : Int) - (1 : Int))) ∧ (qkM .i64 (((x8.n : Nat) : Int) - (1 : Int))) < ((x8.n : Nat) : Int)) ∧ onPtr x8.a fun a59 => elI .u64 (AH.cell? Hj (qkN (qkN a59 (qkX (qkM .i64 (((x8.n : Nat) : Int) - (1 : Int))) * 2)) 1)) fun n64 => ((8 : Int) : Int) ≠ 0 ∧ (0 : Int) ≤ (qkM .i64 ((qlM (qkM .i64 (x1 + t5.2)) (8 : Int)) * (8 : Int))) ∧ ((8 : Int) : Int) ≠ 0 ∧ (0 : Int) ≤ (qkM .i64 ((qlM (qkM .i64 (x1 + t5.2)) (8 : Int)) * (8 : Int))) ∧ stC Hj (qkN (qkN a59 (qkX (qkM .i64 (((x8.n : Nat) : Int) - (1 : Int))) * 2)) 1) [(qkL .u64 (orI .u64 (andNotI .u64 n64 (shlI .u64 (255 : Int) (qkM .i64 ((qlM (qkM .i64 (x1 + t5.2)) (8 : Int)) * (8 : Int))))) (shlI .u64 (qkM .u64 n25) (qkM .i64 ((qlM (qkM .i64 (x1 + t5.2)) (8 : Int)) * (8 : Int))))))] fun Hs2 => it5 (x8, (qkM .i64 (t5.2 + (1 : Int)))) Hs2
def qV.j2 (x0 : Sl) (x1 : Int) (t5 : Sl × Int) (it5 : (Sl × Int) → AH → Prop) (HL5 : AH) (n25 : Int) (x43 : Bool) : Prop :=
 bcase x43 (((8 : Int) : Int) ≠ 0 ∧ ((8 : Int) : Int) ≠ 0 ∧ (0 ≤ (qkM .i64 (qmc (qkM .i64 (x1 + t5.2)) (8 : Int))) ∧ (qkM .i64 (qmc (qkM .i64 (x1 + t5.2)) (8 : Int))) < ((x0.n : Nat) : Int)) ∧ onPtr x0.a fun a50 => elI .u64 (AH.cell? HL5 (qkN a50 (qkX (qkM .i64 (qmc (qkM .i64 (x1 + t5.2)) (8 : Int))) * 1))) fun n51 => (qk0 [(qkL .i64 (qkM .i64 (qmc (qkM .i64 (x1 + t5.2)) (8 : Int)))), (qkL .u64 n51)] = 2) ∧ newC HL5 ⟨[(qkL .i64 (qkM .i64 (qmc (qkM .i64 (x1 + t5.2)) (8 : Int)))), (qkL .u64 n51)], .rw, 2⟩ fun o53 H53 => appendC 2 H53 t5.1 ⟨(some ⟨o53, 0, none⟩), 1, 1⟩ fun s54 H54 => qV.j1 x1 t5 it5 n25 s54 H54) (qV.j1 x1 t5 it5 n25 t5.1 HL5)
def qV.l3 (x0 : Sl) (x1 : Int) (x2 : Sl) (k : Sl → Bool → AH → Prop) (t5 : Sl × Int) (HL5 : AH) (it5 : (Sl × Int) → AH → Prop) : Prop :=
 bcase (decide ((t5.2 : Int) < ((x2.n : Nat) : Int))) ((0 ≤ t5.2 ∧ t5.2 < ((x2.n : Nat) : Int)) ∧ onPtr x2.a fun a24 => elI .u8 (AH.cell? HL5 (qkN a24 (qkX t5.2 * 1))) fun n25 => bcase ((((t5.1.n : Nat) : Int) : Int) == (0 : Int)) (qV.j2 x0 x1 t5 it5 HL5 n25 true) ((0 ≤ (qkM .i64 (((t5.1.n : Nat) : Int) - (1 : Int))) ∧ (qkM .i64 (((t5.1.n : Nat) : Int) - (1 : Int))) < ((t5.1.n : Nat) : Int)) ∧ onPtr t5.1.a fun a37 => elI .i64 (AH.cell? HL5 (qkN (qkN a37 (qkX (qkM .i64 (((t5.1.n : Nat) : Int) - (1 : Int))) * 2)) 0)) fun n39 => ((8 : Int) : Int) ≠ 0 ∧ qV.j2 x0 x1 t5 it5 HL5 n25 ((n39 : Int) != (qkM .i64 (qmc (qkM .i64 (x1 + t5.2)) (8 : Int)))))) (k t5.1 true HL5)
def qV.b (x0 : Sl) (x1 : Int) (x2 : Sl) (H : AH) (k : Sl → Bool → AH → Prop) : Prop :=
 qbt x0 x1 ((x2.n : Nat) : Int) H fun b17 H17 => bcase (!b17) (k ⟨none, 0, 0⟩ false H17) (loopT (qV.l3 x0 x1 x2 k) ((⟨none, 0, 0⟩, (0 : Int)) : Sl × Int) H17)
def qV.ann : Ann := { keep := fun r => match r with | 5 => [(8, .sl), (21, .int .i64)] | _ => [], ord := fun r => match r with | 11 => [0, 1, 2, 3, 4, 5, 6, 7, 8, 9, 10, 11, 12, 13, 14, 15, 16, 17, 18, 19] | _ => [] }
theorem qV.link {x0 : Sl} {x1 : Int} {x2 : Sl} {H : AH} {k : Sl → Bool → AH → Prop} (h : qV.b x0 x1 x2 H k) : qV x0 x1 x2 H k := lk2 pan hT hm Tryz.func155 (by kernel_rfl) (A := qV.ann) (by kernel_rfl) (by simp) (by simp) (by kernel_rfl) h
def qbS.b (x0 : Sl) (x1 : Int) (x2 : Sl) (H : AH) (k : Sl → Int → AH → Prop) : Prop :=
 qbs x0 x1 ((x2.n : Nat) : Int) H fun n15 H15 => bcase ((n15 : Int) != (0 : Int)) (k ⟨none, 0, 0⟩ n15 H15) (qV x0 x1 x2 H15 fun s23a b23b H23 => k s23a (0 : Int) H23)
theorem qbS.link {x0 : Sl} {x1 : Int} {x2 : Sl} {H : AH} {k : Sl → Int → AH → Prop} (h : qbS.b x0 x1 x2 H k) : qbS x0 x1 x2 H k := lk2 pan hT hm Tryz.func117 (by kernel_rfl) (A := ann0) (by kernel_rfl) (by simp) (by simp) (by kernel_rfl) h
def qbB.b (x0 : Option Addr) (x1 : Int) (x2 : Sl) (H : AH) (pk : Value → AH → Prop) (k : AH → Prop) : Prop :=
 qaC x0 H (fun pv10 Hp10 => pk pv10 Hp10) fun s10 H10 => qbS s10 x1 x2 H10 fun s15a n15b H15 => qY n15b H15 (fun pv19 Hp19 => pk pv19 Hp19) fun H19 => bcase ((((s15a.n : Nat) : Int) : Int) == (0 : Int)) (k H19) (qag x0 H19 (fun pv24 Hp24 => pk pv24 Hp24) fun H24 => qx x0 s10 s15a H24 (fun pv28 Hp28 => pk pv28 Hp28) fun H28 => k H28)
theorem qbB.link {x0 : Option Addr} {x1 : Int} {x2 : Sl} {H : AH} {pk : Value → AH → Prop} {k : AH → Prop} (h : qbB.b x0 x1 x2 H pk k) : qbB x0 x1 x2 H pk k := lk0 pan hT hm Tryz.func67 (by kernel_rfl) (A := ann0) (by kernel_rfl) (by kernel_rfl) h
def qak.j1 (x0 : Option Addr) (x1 : Int) (k : AH → Prop) (pk : Value → AH → Prop) (x14 : Bool) (Hj : AH) : Prop :=
 bcase x14 (pk (Value.iface 31 (qkL .i64 (1 : Int))) Hj) (qag x0 Hj (fun pv17 Hp17 => pk pv17 Hp17) fun H17 => onPtr x0 fun a19 => elP (AH.cell? H17 (qkN a19 0)) fun p21 => qz p21 (2 : Int) (qkM .u64 x1) H17 fun n24 H24 => qY n24 H24 (fun pv25 Hp25 => pk pv25 Hp25) fun H25 => k H25)
def qak.b (x0 : Option Addr) (x1 : Int) (H : AH) (pk : Value → AH → Prop) (k : AH → Prop) : Prop :=
 qaC x0 H (fun pv6 Hp6 => pk pv6 Hp6) fun s6 H6 => bcase ((x1 : Int) != (0 : Int)) (qb1 s6 x1 H6 fun b12 H12 => qak.j1 x0 x1 k pk (!b12) H12) (qak.j1 x0 x1 k pk false H6)
theorem qak.link {x0 : Option Addr} {x1 : Int} {H : AH} {pk : Value → AH → Prop} {k : AH → Prop} (h : qak.b x0 x1 H pk k) : qak x0 x1 H pk k := lk0 pan hT hm Tryz.func68 (by kernel_rfl) (A := ann0) (by kernel_rfl) (by kernel_rfl) h
def pl (a b c d : Int) : List Value := [.int .i64 a, .int .i64 b, .int .i64 c, .int .i64 d]
def mayP (a b c d : Int) : Bool := decide (1 ≤ a ∧ a ≤ 64 ∧ 0 ≤ b ∧ b ≤ 16 ∧ 1 ≤ c ∧ c ≤ 1000 ∧ 1 ≤ d ∧ d ≤ 100)
def wordsP (a b c d : Int) : Int := if mayP a b c d = true then 8 * a else 0
def pagesP (a b c d : Int) : Int := if mayP a b c d = true then (a + 3) / 4 else 0
def logicalP (a b c d : Int) : Int := if mayP a b c d = true then 16 + a else 0
def deviceP (a b c d : Int) : Int := if mayP a b c d = true then 17 + a + b else 0
def homeP (a b c d x : Int) : Int := if mayP a b c d = true ∧ 0 ≤ x ∧ x < a then 16 + x else -1
section
variable {a b c d x : Int} {H : AH} {e : Nat}
theorem pl_row : AH.row? (H.push ⟨pl a b c d, .rw, e⟩) ⟨H.size, 0, none⟩ 4 = some (pl a b c d) := row_new rfl rfl
theorem pl_ld {k : List Value → Prop} : ldA (H.push ⟨pl a b c d, .rw, e⟩) ⟨H.size, 0, none⟩ 4 k ↔ k (pl a b c d) := qs pl_row
theorem pl_0 : AH.cell? (H.push ⟨pl a b c d, .rw, e⟩) (qkN ⟨H.size, 0, none⟩ 0) = some (.int .i64 a) := qdf _ _ _ _
theorem pl_1 : AH.cell? (H.push ⟨pl a b c d, .rw, e⟩) (qkN ⟨H.size, 0, none⟩ 1) = some (.int .i64 b) := qdf _ _ _ _
theorem pl_2 : AH.cell? (H.push ⟨pl a b c d, .rw, e⟩) (qkN ⟨H.size, 0, none⟩ 2) = some (.int .i64 c) := qdf _ _ _ _
theorem pl_3 : AH.cell? (H.push ⟨pl a b c d, .rw, e⟩) (qkN ⟨H.size, 0, none⟩ 3) = some (.int .i64 d) := qdf _ _ _ _
theorem qJ : mayP a b c d = true ↔ 1 ≤ a ∧ a ≤ 64 ∧ 0 ≤ b ∧ b ≤ 16 ∧ 1 ≤ c ∧ c ≤ 1000 ∧ 1 ≤ d ∧ d ≤ 100 := by simp [mayP]
theorem hK {o : AObj} {P : Prop} : (qa H (H.push o) ∧ P) ↔ P := ⟨fun h => h.2, fun h => ⟨(qa.refl H).push _, h⟩⟩
theorem qaM.s {k : Bool → AH → Prop} (h : k (mayP a b c d) H) : qaM (pl a b c d) H k := by
 refine gcB (mayP a b c d) (qaM.link ?_) h
 simp only [qaM.b, qt, pl_0, pl_1, pl_2, pl_3, qg, qj, decide_eq_true_eq, hK]
 repeat' split
 all_goals simp only [mayP, decide_eq_decide, Bool.false_eq, decide_eq_false_iff_not]
 all_goals omega
theorem qb5.s {k : Int → AH → Prop} (h : k (wordsP a b c d) H) : qb5 (pl a b c d) H k := by
 refine gcI (wordsP a b c d) (qb5.link ?_) h
 simp only [qb5.b, qt, pl_ld]
 refine qaM.s ?_
 simp only [pl_0, qg, qj, hK, wordsP, ql3]
 cases hm : mayP a b c d
 ·simp
 ·have := qJ.1 hm
  simp only [Bool.true_eq_false, eq_self, if_false, if_true]
  rw [qe (by omega) (by omega)]
  omega
theorem qbV.s {k : Int → AH → Prop} (hx : -9223372036854775808 ≤ x ∧ x ≤ 9223372036854775807) (h : k ((if 0 > x then 0 else x) / 4) H) : qbV x H k := by
 refine gcI ((if 0 > x then 0 else x) / 4) (qbV.link ?_) h
 refine ⟨by decide, qa.refl H, ?_⟩
 have : (0 : Int) ≤ (if 0 > x then 0 else x) := by split <;> omega
 rw [qlJ this, qe (by split <;> omega) (by split <;> omega)]
theorem qb2.s {k : Int → AH → Prop} (h : k (pagesP a b c d) H) : qb2 (pl a b c d) H k := by
 refine gcI (pagesP a b c d) (qb2.link ?_) h
 simp only [qb2.b, qt, pl_ld]
 refine qaM.s ?_
 simp only [pl_0, qg, qj, hK, pagesP, ql3]
 cases hm : mayP a b c d
 ·simp
 ·have := qJ.1 hm
  simp only [Bool.true_eq_false, eq_self, if_false, if_true]
  rw [qe (by omega) (by omega)]
  refine qbV.s (by omega) ?_
  rw [qe (by split <;> omega) (by split <;> omega)]
  simp only [hK]
  split <;> omega
theorem qa9.s {k : Int → AH → Prop} (h : k (logicalP a b c d) H) : qa9 (pl a b c d) H k := by
 refine gcI (logicalP a b c d) (qa9.link ?_) h
 simp only [qa9.b, qt, pl_ld]
 refine qaM.s ?_
 simp only [pl_0, qg, qj, hK, logicalP, ql3]
 cases hm : mayP a b c d
 ·simp
 ·have := qJ.1 hm
  simp only [Bool.true_eq_false, eq_self, if_false, if_true]
  rw [qe (by omega) (by omega)]
theorem qaz.s {k : Int → AH → Prop} (h : k (deviceP a b c d) H) : qaz (pl a b c d) H k := by
 refine gcI (deviceP a b c d) (qaz.link ?_) h
 simp only [qaz.b, qt, pl_ld]
 refine qaM.s ?_
 simp only [pl_0, pl_1, qg, qj, hK, deviceP, ql3]
 cases hm : mayP a b c d
 ·simp
 ·have := qJ.1 hm
  simp only [Bool.true_eq_false, eq_self, if_false, if_true]
  rw [pl_ld]
  refine qa9.s ?_
  refine ⟨pl_1, ?_⟩
  simp only [logicalP, hm, if_true, hK]
  rw [qe (n := 16 + a + 1) (by omega) (by omega), qe (by omega) (by omega)]
  omega
theorem qa4.s {k : Int → AH → Prop} (h : k (homeP a b c d x) H) : qa4 (pl a b c d) x H k := by
 refine gcI (homeP a b c d x) (qa4.link ?_) h
 simp only [qa4.b, qt, pl_ld]
 refine qaM.s ?_
 simp only [pl_0, pl_1, qg, qj, hK, homeP, ql3, decide_eq_true_eq]
 cases hm : mayP a b c d
 ·simp
 ·have := qJ.1 hm
  simp only [Bool.true_eq_false, eq_self, if_false, true_and]
  split
  ·rw [if_neg (by omega)]
  ·split
   ·rw [if_neg (by omega)]
   ·rw [if_pos (by omega), qe (by omega) (by omega)]
end
def opl (K a b c : Int) (s : Sl) : List Value := [.int .i64 K, .int .i64 a, .int .i64 b, .int .i64 c, s.val]
def linesP (K b : Int) (n : Nat) : Int :=
 if K = 1 then (if 0 ≤ b ∧ b ≤ 448 then b / 64 + 4 else 0) else if K = 4 then (if n ≤ 448 then (n : Int) / 64 + 2 else 0) else if K = 2 then 1 else 0
section
variable {K a b c d m x : Int} {sl : Sl} {H : AH} {e : Nat}
theorem qe1 : 0 ≤ linesP K b sl.n ∧ linesP K b sl.n ≤ 11 := by
 unfold linesP
 repeat' split
 all_goals omega
theorem op_len : (opl K a b c sl).length = 5 := rfl
theorem op_ok : (opl K a b c sl).all qo = true := rfl
end
def isU (n : Int) : Prop := 0 ≤ n ∧ n ≤ 18446744073709551615
def isI (n : Int) : Prop := -9223372036854775808 ≤ n ∧ n ≤ 9223372036854775807
def iV (v : Int) : List Value := [.int .i64 v]
def wU (v : Int) : List Value := [.int .u64 v]
def bU (v : Int) : List Value := [.int .u8 v]
end Go.Proofs.YtdcbkjgoaknmkaaGreat
namespace Go.Abs
theorem own_len {α : Type} {B : Nat} {H : AH} {s : Sl} {z : Nat} {f : α → List Value} {l : List α} (h : Own B H s z f l) : s.n = l.length := by
 rcases h with ⟨rfl, rfl⟩ | ⟨b, rfl, _, _, _⟩ <;> rfl
theorem qjs {α : Type} {cells : List Value} {z : Nat} {f : α → List Value} : ∀ {l : List α} {o : Nat}, (∀ i x, l[i]? = some x → (cells.drop (o + i * z)).take z = f x ∧ (f x).length = z) → (cells.drop o).take (l.length * z) = l.flatMap f := by
 intro l
 induction l with
 | nil => intro o _; simp
 | cons a r ih =>
  intro o h
  have h0 := h 0 a rfl
  rw [Nat.zero_mul, Nat.add_zero] at h0
  have hr := ih (o := o + z) fun i x hx => by
   have := h (i + 1) x (by simpa using hx)
   rw [show o + z + i * z = o + (i + 1) * z by rw [Nat.add_mul]; omega]
   exact this
  simp only [qk3, qly]
  rw [Nat.add_mul, Nat.one_mul, Nat.add_comm, List.take_add, h0.1, List.drop_drop, hr]
theorem qjL {α : Type} {H : AH} {s : Sl} {z : Nat} {f : α → List Value} {l : List α} (hf : ∀ x, (f x).length = z) (hc : ∀ x, (f x).all qo = true) (h : Rows H s z f l) : AH.rowS? H s z = some (l.flatMap f) := by
 simp only [AH.rowS?]
 by_cases h0 : s.n = 0
 ·rw [if_pos h0]
  have : l = [] := List.length_eq_zero_iff.1 (by rw [← h.1]; exact h0)
  subst this; rfl
 ·rw [if_neg h0]
  have hpos : 0 < l.length := by rw [← h.1]; omega
  obtain ⟨b, o, ha, hb, _⟩ := h.at hpos
  have hrow : ∀ i x, l[i]? = some x → AH.row? H ⟨b, o + i * z, none⟩ z = some (f x) := by
   intro i x hx
   obtain ⟨a, e1, e2, e3, e4⟩ := h.2 i x hx
   rw [ha] at e1
   injection e1 with e1
   subst e1
   exact e4
  have hun : ∀ i x, l[i]? = some x → (H.get b).md ≠ .dead ∧ ((H.get b).cells.drop (o + i * z)).take z = f x ∧ o + i * z + z ≤ (H.get b).cells.length := by
   intro i x hx
   have := hrow i x hx
   simp only [AH.row?, qk7, qkW, if_false] at this
   split at this
   ·cases this
   ·rename_i hd
    split at this
    ·rename_i hh
     injection this with this
     exact ⟨hd, this, hh.1⟩
    ·cases this
  have hl := hun (l.length - 1) l[l.length - 1] (qkO (by omega))
  have hflat := qjs (cells := (H.get b).cells) (z := z) (f := f) (l := l) (o := o) fun i x hx => ⟨(hun i x hx).2.1, hf x⟩
  have hle : o + l.length * z ≤ (H.get b).cells.length := by
   have := hl.2.2
   obtain ⟨n, hn⟩ : ∃ n, l.length = n + 1 := ⟨l.length - 1, by omega⟩
   rw [hn] at this ⊢
   rw [Nat.add_sub_cancel] at this
   rw [Nat.add_mul]
   omega
  have hall : (l.flatMap f).all qo = true := by simp [List.all_flatMap, hc]
  rw [ha]
  simp only [AH.row?, qk7, qkW, if_false]
  rw [if_neg hl.1, h.1, hflat, if_pos ⟨hle, hall⟩]
theorem qhd {α : Type} {H0 H : AH} {B : Nat} {s t : Sl} {z : Nat} {f : α → List Value} {l r : List α} {k : Sl → AH → Prop} (hf : ∀ x, (f x).length = z) (hc : ∀ x, (f x).all qo = true)
  (hO : Own B H s z f l) (hR : Rows H t z f r) (hB : H0.size ≤ B) (hBH : B ≤ H.size) (hK : qa H0 H) (hlim : l.length + r.length ≤ limS z)
  (h : ∀ s' H', Own B H' s' z f (l ++ r) → qa H0 H' → H.size ≤ H'.size → (∀ b, b < H.size → (∀ a, s.a = some a → b ≠ a.block) → H'.get b = H.get b) → k s' H') :
  appendC z H s t k := by
 have hrow := qjL hf hc hR
 have hge := hK.1
 have hs : s.n = l.length := own_len hO
 refine ⟨by rw [hs, hR.1]; exact hlim, ?_⟩
 by_cases h0 : t.n = 0
 ·rw [if_pos h0]
  have : r = [] := List.length_eq_zero_iff.1 (by rw [← hR.1]; exact h0)
  subst this
  refine h _ _ (by rw [List.append_nil]; exact hO) hK (qkV _) fun _ _ _ => rfl
 rw [if_neg h0]
 refine ⟨_, hrow, ?_⟩
 have ht := hR.1
 rcases hO with ⟨rfl, rfl⟩ | ⟨b, rfl, hb1, hb2, hg⟩
 ·refine h _ _ (.inr ⟨H.size, ?_, ?_, ?_, ?_⟩) (hK.push _) (by simp [qi]) ?_
  ·simp [newAt, ht]
  ·omega
  ·simp [qi]
  ·simp [qp]
  ·intro b hb _; exact qG (by omega)
 ·refine ⟨⟨rfl, rfl, rfl, by rw [hg], by rw [hg, qdO hf], by rw [hg]⟩, ?_⟩
  refine h _ _ (.inr ⟨H.size, ?_, ?_, ?_, ?_⟩) ((hK.kill (b := b) (Nat.le_trans hB hb1)).push _) (by simp [qi, qaR]) ?_
  ·simp [newAt, ht]
  ·omega
  ·simp [qi, qaR]
  ·simp only [qp, qaR, if_true]
   rw [hg]
   simp
  ·intro b' hb' hne
   have hne' : b' ≠ b := hne _ rfl
   rw [qG (by simp only [qaR]; omega), qdm hne']
theorem qfq {α : Type} {H0 H : AH} {B : Nat} {s t : Sl} {z : Nat} {f : α → List Value} {l r : List α} {k : Sl → AH → Prop} (hf : ∀ x, (f x).length = z) (hc : ∀ x, (f x).all qo = true)
  (hO : Own B H s z f l) (hR : Rows H t z f r) (hB : H0.size ≤ B) (hBH : B ≤ H.size) (hK : qa H0 H) (hlim : l.length + r.length ≤ lim)
  (h : ∀ s' H', Own B H' s' z f (l ++ r) → qa H0 H' → H.size ≤ H'.size → (∀ b, b < H.size → (∀ a, s.a = some a → b ≠ a.block) → H'.get b = H.get b) → k s' H') :
  appendC z H s t k := qhd hf hc hO hR hB hBH hK (le_limS hlim z) h
theorem qf9 {α : Type} {H : AH} {s : Sl} {z : Nat} {f : α → List Value} {l : List α} {k : Nat} (h : Rows H s z f l) (hk : k ≤ l.length) : Rows H ⟨s.a, k, 0⟩ z f (l.take k) := by
 refine ⟨by simp; omega, fun i x hi => h.2 i x ?_⟩
 rw [qlD] at hi
 split at hi
 ·exact hi
 ·cases hi
theorem qga {α : Type} {H : AH} {s : Sl} {z : Nat} {f : α → List Value} {l : List α} {k : Nat} (h : Rows H s z f l) (hk : k ≤ l.length) : Rows H ⟨Option.map (fun x => qkN x (k * z)) s.a, s.n - k, 0⟩ z f (l.drop k) := by
 refine ⟨by simp [h.1], fun i x hi => ?_⟩
 rw [qlE] at hi
 obtain ⟨a, h1, h2, h3, h4⟩ := h.2 _ _ hi
 obtain ⟨b, o, sp⟩ := a
 simp only at h2 h3 h4
 subst h2
 refine ⟨⟨b, o + k * z, none⟩, by rw [h1, qlg, ql], rfl, h3, ?_⟩
 rw [← h4]
 simp only
 congr 2
 rw [Nat.add_mul]; omega
def getB (v : Int) (j : Nat) : Int := (v / 2 ^ (8 * j)) % 256
def setB (v : Int) (j : Nat) (c : Int) : Int :=
 ((((qlz 64 v) &&& ~~~(BitVec.ofNat 64 (255 * 2 ^ (8 * j)))) ||| (BitVec.ofNat 64 (c.toNat * 2 ^ (8 * j)))).toNat : Int)
theorem qiX (v : Int) (j : Nat) (c : Int) : 0 ≤ setB v j c ∧ setB v j c ≤ 18446744073709551615 := by
 unfold setB
 have := (((qlz 64 v) &&& ~~~(BitVec.ofNat 64 (255 * 2 ^ (8 * j)))) ||| (BitVec.ofNat 64 (c.toNat * 2 ^ (8 * j)))).isLt
 omega
theorem qfD (n j : Nat) : getB (n : Int) j = ((n / 2 ^ (8 * j)) % 256 : Nat) := by
 unfold getB
 rw [Int.natCast_emod, Int.natCast_ediv, Int.natCast_pow]
 rfl
theorem qdN (n j t : Nat) : ((n / 2 ^ (8 * j)) % 256).testBit t = (decide (t < 8) && n.testBit (8 * j + t)) := by
 have : (256 : Nat) = 2 ^ 8 := rfl
 rw [this, Nat.testBit_mod_two_pow, Nat.testBit_div_two_pow, Nat.add_comm]
theorem qgm {v c : Int} {j : Nat} (hj : j < 8) (hc : 0 ≤ c ∧ c ≤ 255) : getB (setB v j c) j = c := by
 obtain ⟨n, rfl⟩ := qk9 hc.1
 unfold setB
 rw [qfD]
 congr 1
 apply Nat.eq_of_testBit_eq
 intro t
 rw [qdN, BitVec.testBit_toNat]
 simp only [qkS]
 have hn : n < 2 ^ 8 := by omega
 by_cases ht : t < 8
 ·have h64 : 8 * j + t < 64 := by omega
  simp only [ht, decide_true, Bool.true_and, BitVec.getLsbD_or, BitVec.getLsbD_and, BitVec.getLsbD_not, BitVec.getLsbD_ofNat, h64, Nat.testBit_mul_two_pow]
  rw [show decide (8 * j + t ≥ 8 * j) = true from by simp, show 8 * j + t - 8 * j = t from by omega]
  have h255 : Nat.testBit 255 t = true := by
   have : (255 : Nat) = 2 ^ 8 - 1 := rfl
   rw [this, Nat.testBit_two_pow_sub_one]; simpa using ht
  simp [h255]
 ·have : n.testBit t = false := Nat.testBit_lt_two_pow (qlX hn (Nat.pow_le_pow_right (by omega) (by omega)))
  simp [ht, this]
theorem qfS {v c : Int} {j i : Nat} (hv : 0 ≤ v ∧ v ≤ 18446744073709551615) (hj : j < 8) (hi : i < 8) (hij : i ≠ j) (hc : 0 ≤ c ∧ c ≤ 255) : getB (setB v j c) i = getB v i := by
 obtain ⟨n, rfl⟩ := qk9 hc.1
 obtain ⟨m, rfl⟩ := qk9 hv.1
 unfold setB
 rw [qfD, qfD]
 congr 1
 apply Nat.eq_of_testBit_eq
 intro t
 rw [qdN, qdN, BitVec.testBit_toNat]
 simp only [qkS]
 have hn : n < 2 ^ 8 := by omega
 by_cases ht : t < 8
 ·have h64 : 8 * i + t < 64 := by omega
  simp only [ht, decide_true, Bool.true_and, BitVec.getLsbD_or, BitVec.getLsbD_and, BitVec.getLsbD_not, BitVec.getLsbD_ofNat, h64, Nat.testBit_mul_two_pow, BitVec.ofInt_natCast]
  have hz : ∀ q : Nat, q < 2 ^ 8 → (decide (8 * i + t ≥ 8 * j) && q.testBit (8 * i + t - 8 * j)) = false := by
   intro q hq
   by_cases hge : 8 * i + t ≥ 8 * j
   ·have : 8 ≤ 8 * i + t - 8 * j := by omega
    rw [Nat.testBit_lt_two_pow (qlX hq (Nat.pow_le_pow_right (by omega) this))]; simp
   ·simp [hge]
  rw [hz 255 (by omega), hz n hn]
  simp
 ·simp [ht]
theorem qkg {v : Int} (hv : 0 ≤ v ∧ v ≤ 18446744073709551615) {j : Nat} (hj : j < 8) : qkM .u8 (shrI .u64 v (8 * (j : Int))) = getB v j := by
 unfold shrI getB
 rw [show (min ((8 * (j : Int)).toNat) (qlI .u64)) = 8 * j from by simp [qlI]; omega]
 rw [Int.fdiv_eq_ediv_of_nonneg _ (Int.pow_nonneg (by omega))]
 simp only [qkM, qlI, IntKind.signed, Bool.false_and, Int.reducePow, qkW, if_false]
theorem qds (x : Int) : qlz 64 (qkM .u64 x) = qlz 64 x := by
 simp only [qkM, qlI, IntKind.signed, Bool.false_and, qkW, if_false]
 apply BitVec.eq_of_toInt_eq
 simp only [BitVec.toInt_ofInt]
 exact Int.emod_bmod x (2 ^ 64)
theorem qkH (n : Nat) (h : n < 2 ^ 64) : qkM .u64 (n : Int) = n := qbe (by omega) (by omega)
theorem qks {v c : Int} (hc : 0 ≤ c ∧ c ≤ 255) {j : Nat} (hj : j < 8) :
  orI .u64 (andNotI .u64 v (shlI .u64 255 (8 * (j : Int)))) (shlI .u64 (qkM .u64 c) (8 * (j : Int))) = setB v j c := by
 have h1 : ∀ x : Int, shlI .u64 x (8 * (j : Int)) = qkM .u64 (x * 2 ^ (8 * j)) := by
  intro x
  unfold shlI
  rw [show (min ((8 * (j : Int)).toNat) (qlI .u64)) = 8 * j from by simp [qlI]; omega]
 have h2 : ∀ a b : Int, andNotI .u64 a b = qkM .u64 ((qlz 64 a &&& ~~~(qlz 64 b)).toNat : Int) := fun _ _ => rfl
 have h3 : ∀ a b : Int, orI .u64 a b = qkM .u64 ((qlz 64 a ||| qlz 64 b).toNat : Int) := fun _ _ => rfl
 rw [h3, h2, h1, h1, qbe (n := c) (by omega) (by omega), qds, qds, qds, qkH _ (BitVec.isLt _)]
 unfold setB
 obtain ⟨n, rfl⟩ := qk9 hc.1
 have e1 : (255 : Int) * 2 ^ (8 * j) = ((255 * 2 ^ (8 * j) : Nat) : Int) := by rw [Int.natCast_mul, Int.natCast_pow]; rfl
 have e2 : (n : Int) * 2 ^ (8 * j) = ((n * 2 ^ (8 * j) : Nat) : Int) := by rw [Int.natCast_mul, Int.natCast_pow]; rfl
 rw [e1, e2]
 simp only [BitVec.ofInt_natCast, qkS, BitVec.ofNat_toNat, BitVec.setWidth_eq]
end Go.Abs
namespace Go.Proofs.YtdcbkjgoaknmkaaGreat
open Go Go.Abs
theorem qjR {H : AH} {b o : Nat} {v : Value} (h : AH.row? H ⟨b, o, none⟩ 1 = some [v]) : AH.cell? H ⟨b, o, none⟩ = some v := by
 have := (AH.row?_cell h).2.2.2.2 0 v rfl
 simpa using this
theorem qbI {α : Type} {H : AH} {s : Sl} {g : α → Value} {l : List α} (h : qli H s 1 (fun x => [g x]) l) {i : Nat} (hi : i < l.length) :
  ∃ b o, s.a = some ⟨b, o, none⟩ ∧ b < H.size ∧ AH.cell? H (qkN ⟨b, o, none⟩ (i * 1)) = some (g (l[i])) := by
 obtain ⟨b, o, h1, h2, h3⟩ := h.at hi
 refine ⟨b, o, h1, h2, ?_⟩
 rw [ql] at h3 ⊢
 exact qjR h3
def inside (len : Nat) (off n : Int) : Prop := 0 ≤ off ∧ 0 ≤ n ∧ n ≤ 448 ∧ off ≤ 8 * len - n
instance (len : Nat) (off n : Int) : Decidable (inside len off n) := by unfold inside; infer_instance
def byteAt (ws : List Int) (i : Nat) : Int := getB (ws.getD (i / 8) 0) (i % 8)
def bytesOf (ws : List Int) (off n : Nat) : List Int := (qlw n).map fun j => byteAt ws (off + j)
def qah (ws : List Int) : Prop := ∀ v ∈ ws, 0 ≤ v ∧ v ≤ 18446744073709551615
section
variable {off n : Int} {H : AH} {sl : Sl}
theorem qbt.s {k : Bool → AH → Prop} (hs : sl.n ≤ 1000000000) (ho : -9223372036854775808 ≤ off ∧ off ≤ 9223372036854775807) (h : k (decide (inside sl.n off n)) H) : qbt sl off n H k := by
 refine gcB (decide (inside sl.n off n)) (qbt.link ?_) h
 simp only [qbt.b, qj, decide_eq_true_eq, qa.refl, true_and]
 by_cases h1 : off ≥ 0
 ·rw [if_pos h1]
  by_cases h2 : n ≥ 0
  ·rw [if_pos h2]
   by_cases h3 : n ≤ 448
   ·rw [if_pos h3, qe (n := (sl.n : Int) * 8) (by omega) (by omega), qe (by omega) (by omega)]
    refine decide_eq_decide.2 ?_; unfold inside; omega
   ·rw [if_neg h3]; refine (decide_eq_false ?_).symm; unfold inside; omega
  ·rw [if_neg h2]; refine (decide_eq_false ?_).symm; unfold inside; omega
 ·rw [if_neg h1]; refine (decide_eq_false ?_).symm; unfold inside; omega
theorem qbr.s {ws : List Int} {k : Sl → Bool → AH → Prop} (hw : qli H sl 1 wU ws) (h64 : qah ws) (hlen : ws.length ≤ 1000000) (ho : -9223372036854775808 ≤ off ∧ off ≤ 9223372036854775807)
  (h1 : inside ws.length off n → ∀ s H', qa H H' → Own H.size H' s 1 bU (bytesOf ws off.toNat n.toNat) → k s true H') (h0 : ¬ inside ws.length off n → k ⟨none, 0, 0⟩ false H) : qbr sl off n H k := by
 refine qbr.link ?_
 unfold qbr.b
 have hn : sl.n = ws.length := hw.1
 refine qbt.s (by omega) ho ?_
 rw [hn]
 by_cases hin : inside ws.length off n
 ·rw [show decide (inside ws.length off n) = true from by simpa using hin, Bool.not_true, qc]
  have hin' := hin
  unfold inside at hin
  refine qL (t := ((⟨none, 0, 0⟩, off) : Sl × Int)) (H := H) (I := fun (t : Sl × Int) H' => ∃ j : Nat, t.2 = off + j ∧ (j : Int) ≤ n ∧ qa H H' ∧ Own H.size H' t.1 1 bU (bytesOf ws off.toNat j)) (m := fun (t : Sl × Int) _ => qkX (off + n - t.2)) ?_ ?_
  ·intro t H1 hI it hit
   obtain ⟨s, i⟩ := t
   obtain ⟨j, hi, hj, hK, hO⟩ := hI
   simp only at hi hO
   subst hi
   have hR := hw.keep hK
   unfold qbr.l1
   simp only
   rw [qe (n := off + n) (by omega) (by omega)]
   by_cases hlt : (j : Int) < n
   ·rw [show decide (off + (j : Int) < off + n) = true from by simp; omega, qk]
    rw [qlJ (by omega), Int.tmod_eq_emod_of_nonneg (by omega), qe (n := (off + (j : Int)) / 8) (by omega) (by omega), hn]
    have hidx : ((off + (j : Int)) / 8).toNat < ws.length := by omega
    obtain ⟨b, o, ha, hb, hcell⟩ := qbI (g := fun v => qkL .u64 v) hR hidx
    refine ⟨by decide, ⟨by omega, by omega⟩, ?_⟩
    rw [ha, qd, hcell, qg, qe (n := (off + (j : Int)) % 8 * 8) (by omega) (by omega)]
    refine ⟨by decide, by omega, ?_⟩
    have hjm : ((off + (j : Int)) % 8) = (((off.toNat + j) % 8 : Nat) : Int) := by omega
    have hidx' : ((off + (j : Int)) / 8).toNat = (off.toNat + j) / 8 := by omega
    have hv := h64 _ (qk5 hidx)
    have hbyte : qkM .u8 (shrI .u64 ws[((off + (j : Int)) / 8).toNat] ((off + (j : Int)) % 8 * 8)) = byteAt ws (off.toNat + j) := by
     rw [Int.mul_comm, hjm, qkg hv (by omega)]
     unfold byteAt
     rw [qkP, ← hidx', qkO hidx, qln]
    rw [hbyte]
    simp only [qt]
    refine qbL (H0 := H) (B := H.size) (f := bU) (x := byteAt ws (off.toNat + j)) (l := bytesOf ws off.toNat j) (fun _ => rfl) rfl hO (qkV _) hK.1 hK (by simp only [bytesOf, List.length_map, List.length_range, lim]; omega) ?_
    intro s' H' hO' hK' _ _
    rw [qe (n := off + (j : Int) + 1) (by omega) (by omega)]
    refine hit _ _ ⟨j + 1, by simp only; omega, by omega, hK', ?_⟩ (by simp only; omega)
    have : bytesOf ws off.toNat (j + 1) = bytesOf ws off.toNat j ++ [byteAt ws (off.toNat + j)] := by simp [bytesOf, qlW]
    rw [this]; exact hO'
   ·rw [show decide (off + (j : Int) < off + n) = false from by simp; omega, qc]
    have hjn : n.toNat = j := by omega
    exact h1 hin' _ _ hK (hjn ▸ hO)
  ·exact ⟨0, by simp, by omega, qa.refl H, .inl ⟨rfl, rfl⟩⟩
 ·rw [show decide (inside ws.length off n) = false from by simpa using hin, Bool.not_false, qk]
  exact h0 hin
end
end Go.Proofs.YtdcbkjgoaknmkaaGreat
namespace Go.Abs
theorem qkF {α : Type} {f : α → List Value} {z : Nat} (hf : ∀ x, (f x).length = z) {j : Nat} {v : Value} (hj : j < z) : ∀ (l : List α) (i : Nat) (x y : α), l[i]? = some x → f y = (f x).set j v →
  (l.flatMap f).set (i * z + j) v = (l.set i y).flatMap f := by
 intro l
 induction l with
 | nil => intro i x y h; simp at h
 | cons a l ih =>
  intro i x y h hy
  cases i with
  | zero =>
   simp only [List.getElem?_cons_zero, Option.some.injEq] at h
   subst h
   simp only [Nat.zero_mul, qla, qly, List.set_cons_zero]
   rw [hy, List.set_append_left _ _ (by rw [hf]; exact hj)]
  | succ i =>
   simp only [List.getElem?_cons_succ] at h
   simp only [qly, List.set_cons_succ]
   rw [← ih i x y h hy, List.set_append_right _ _ (by rw [hf, Nat.succ_mul]; omega)]
   congr 2
   rw [hf, Nat.succ_mul]; omega
theorem Own.cell {α : Type} {B : Nat} {H : AH} {s : Sl} {z : Nat} {f : α → List Value} {l : List α} (h : Own B H s z f l) (hf : ∀ x, (f x).length = z) {i : Nat} {x : α} (hi : l[i]? = some x) {j : Nat} (hj : j < z) :
  ∃ b, s.a = some ⟨b, 0, none⟩ ∧ B ≤ b ∧ b < H.size ∧ AH.cell? H ⟨b, i * z + j, none⟩ = (f x)[j]? := by
 rcases h with ⟨_, rfl⟩ | ⟨b, rfl, h1, h2, hg⟩
 ·simp at hi
 ·refine ⟨b, rfl, h1, h2, ?_⟩
  simp only [AH.cell?, hg, qk7, qkW, if_false]
  rw [if_neg (by simp)]
  have := qhL hf l i x hi
  rw [← this, qlD, if_pos hj, qlE]
theorem Own.put {α : Type} {B : Nat} {H : AH} {s : Sl} {z : Nat} {f : α → List Value} {l : List α} (h : Own B H s z f l) (hf : ∀ x, (f x).length = z) {i : Nat} {x y : α} (hi : l[i]? = some x) {j : Nat} (hj : j < z) {v : Value}
  (hy : f y = (f x).set j v) : ∃ b, s.a = some ⟨b, 0, none⟩ ∧ B ≤ b ∧ b < H.size ∧ AH.canPut H ⟨b, i * z + j, none⟩ 1 ∧ Own B (H.put ⟨b, i * z + j, none⟩ [v]) s z f (l.set i y) ∧
   ∀ b', b' ≠ b → (H.put ⟨b, i * z + j, none⟩ [v]).get b' = H.get b' := by
 rcases h with ⟨_, rfl⟩ | ⟨b, rfl, h1, h2, hg⟩
 ·simp at hi
 ·have hlt : i < l.length := (List.getElem?_eq_some_iff.1 hi).1
  have hle : i * z + j + 1 ≤ (l.flatMap f).length := by
   rw [qdO hf]
   calc i * z + j + 1 ≤ i * z + z := by omega
    _ = (i + 1) * z := by rw [Nat.succ_mul]
    _ ≤ l.length * z := Nat.mul_le_mul_right _ hlt
  refine ⟨b, rfl, h1, h2, ⟨rfl, by rw [hg], by rw [hg]; exact hle⟩, .inr ⟨b, by simp, h1, h2, ?_⟩, fun b' hb' => ?_⟩
  ·simp only [AH.put, qA, if_true, hg, setMany]
   rw [qkF hf hj l i x y hi hy]
  ·simp only [AH.put, qA]; rw [if_neg hb']
end Go.Abs
namespace Go.Proofs.YtdcbkjgoaknmkaaGreat
open Go Go.Abs
def putB (ws : List Int) (i : Nat) (c : Int) : List Int := ws.set (i / 8) (setB (ws.getD (i / 8) 0) (i % 8) c)
def putBs : List Int → Nat → List Int → List Int
 | ws, _, [] => ws
 | ws, i, c :: r => putBs (putB ws i c) (i + 1) r
def eU (x : Int × Int) : List Value := [.int .i64 x.1, .int .u64 x.2]
def editsOf (cur : List Int) (q m : Nat) : List (Int × Int) := (qlw m).map fun j => (((q + j : Nat) : Int), cur.getD (q + j) 0)
def touched (off k : Nat) : Nat := if k = 0 then 0 else (off + k - 1) / 8 - off / 8 + 1
def qbW (bs : List Int) : Prop := ∀ v ∈ bs, 0 ≤ v ∧ v ≤ 255
theorem qdo (ws : List Int) (i : Nat) (c : Int) : (putB ws i c).length = ws.length := by simp [putB]
theorem qch : ∀ (bs ws : List Int) (i : Nat), (putBs ws i bs).length = ws.length := by
 intro bs
 induction bs with
 | nil => intro ws i; rfl
 | cons c r ih => intro ws i; simp [putBs, ih, qdo]
theorem qi7 : ∀ (bs ws : List Int) (i : Nat) (c : Int), putBs ws i (bs ++ [c]) = putB (putBs ws i bs) (i + bs.length) c := by
 intro bs
 induction bs with
 | nil => intro ws i c; rfl
 | cons b r ih => intro ws i c; simp only [qlr, putBs, ih, qk3]; congr 1; omega
theorem qe2 (ws : List Int) (i : Nat) (c : Int) (w : Nat) (h : i / 8 < ws.length) : (putB ws i c).getD w 0 = if w = i / 8 then setB (ws.getD (i / 8) 0) (i % 8) c else ws.getD w 0 := by
 unfold putB
 simp only [qkP]
 by_cases hw : w = i / 8
 ·subst hw; simp [h]
 ·rw [if_neg hw, qle (by omega)]
theorem qe5 : ∀ (bs ws : List Int) (i w : Nat), (i + bs.length ≤ w * 8 ∨ w < i / 8) → i + bs.length ≤ ws.length * 8 → (putBs ws i bs).getD w 0 = ws.getD w 0 := by
 intro bs
 induction bs with
 | nil => intro ws i w _ _; rfl
 | cons c r ih =>
  intro ws i w h hl
  simp only [qk3] at h hl
  simp only [putBs]
  rw [ih _ _ _ (by omega) (by rw [qdo]; omega), qe2 _ _ _ _ (by omega), if_neg (by omega)]
section
variable {off : Nat} {H : AH} {x0 x2 : Sl}
theorem qbw (cur : List Int) (q m : Nat) : (editsOf cur q m).length = m := by simp [editsOf]
theorem qdk {cur : List Int} {q m i : Nat} (h : i < m) : (editsOf cur q m)[i]? = some (((q + i : Nat) : Int), cur.getD (q + i) 0) := by
 simp [editsOf, h]
theorem qeH {ws : List Int} (h : qah ws) (i : Nat) (c : Int) : qah (putB ws i c) := by
 intro v hv
 unfold putB at hv
 rcases qlP hv with hv | rfl
 ·exact h v hv
 ·exact qiX _ _ _
theorem qib {cur : List Int} {q m i : Nat} {c : Int} (hm : 1 ≤ m) (hi : i / 8 = q + m - 1) (hl : i / 8 < cur.length) :
  (editsOf cur q m).set (m - 1) (((i / 8 : Nat) : Int), setB (cur.getD (i / 8) 0) (i % 8) c) = editsOf (putB cur i c) q m := by
 apply qlb
 intro j
 by_cases hj : j < m
 ·rw [qdk hj, qe2 _ _ _ _ hl]
  by_cases hjm : j = m - 1
  ·subst hjm
   rw [qlu (by rw [qbw]; omega), if_pos (by omega), show q + (m - 1) = i / 8 from by omega]
  ·rw [qle (by omega), qdk hj, if_neg (by omega)]
 ·rw [qkT (by rw [List.length_set, qbw]; omega), qkT (by rw [qbw]; omega)]
theorem qhD {it : Sl × Int → AH → Prop} {H0 H1 : AH} {s : Sl} {cur : List Int} {k m : Nat} {c : Int} {t : Sl × Int} (ht : t.2 = (k : Int)) (hK : qa H0 H1) (hO : Own H0.size H1 s 2 eU (editsOf cur (off / 8) m)) (hm : 1 ≤ m) (hm' : m ≤ 1000)
  (hi : (off + k) / 8 = off / 8 + m - 1) (hl : (off + k) / 8 < cur.length) (hc : 0 ≤ c ∧ c ≤ 255) (hoff : off + k ≤ 100000000)
  (hit : ∀ H', qa H0 H' → Own H0.size H' s 2 eU (editsOf (putB cur (off + k) c) (off / 8) m) → it (s, (k : Int) + 1) H') : qV.j1 (off : Int) t it c s H1 := by
 unfold qV.j1
 have hlen : s.n = m := by
  rcases hO with ⟨rfl, h⟩ | ⟨b, rfl, _, _, _⟩
  ·have := qbw cur (off / 8) m
   rw [h] at this; simpa using this
  ·simp [qbw]
 rw [hlen, ht, qe (n := (m : Int) - 1) (by omega) (by omega), qe (n := (off : Int) + (k : Int)) (by omega) (by omega)]
 have hidx : ((m : Int) - 1).toNat = m - 1 := by omega
 have hget := qdk (cur := cur) (q := off / 8) (show m - 1 < m from by omega)
 have hq : off / 8 + (m - 1) = (off + k) / 8 := by omega
 rw [hq] at hget
 obtain ⟨b, ha, hb1, hb2, hcell⟩ := hO.cell (fun _ => rfl) hget (j := 1) (by omega)
 refine ⟨⟨by omega, by omega⟩, ?_⟩
 rw [ha, qd, hidx, ql, ql, qla, hcell]
 have hmod : ((off : Int) + (k : Int)).tmod 8 = (((off + k) % 8 : Nat) : Int) := by rw [Int.tmod_eq_emod_of_nonneg (by omega)]; omega
 rw [hmod]
 show elI .u64 (some (qkL .u64 (cur.getD ((off + k) / 8) 0))) _
 rw [qg, qe (n := (((off + k) % 8 : Nat) : Int) * 8) (by omega) (by omega), Int.mul_comm _ 8, qks hc (by omega)]
 refine ⟨by decide, by omega, by decide, by omega, ?_⟩
 obtain ⟨b', ha', _, _, hcan, hO', hsame⟩ := hO.put (y := ((((off + k) / 8 : Nat) : Int), setB (cur.getD ((off + k) / 8) 0) ((off + k) % 8) c)) (fun _ => rfl) hget (j := 1) (by omega) (v := .int .u64 (setB (cur.getD ((off + k) / 8) 0) ((off + k) % 8) c)) rfl
 rw [ha] at ha'
 injection ha' with ha'
 injection ha' with ha'
 subst ha'
 refine ⟨hcan, ?_⟩
 rw [qe (n := (k : Int) + 1) (by omega) (by omega)]
 rw [qib hm hi hl] at hO'
 exact hit _ (hK.put hb1 _) hO'
theorem own_n {α : Type} {B : Nat} {H : AH} {s : Sl} {z : Nat} {f : α → List Value} {l : List α} (h : Own B H s z f l) : s.n = l.length := by
 rcases h with ⟨rfl, rfl⟩ | ⟨b, rfl, _, _, _⟩ <;> rfl
theorem qhi {it : Sl × Int → AH → Prop} {H0 H1 : AH} {s : Sl} {ws cur : List Int} {k m : Nat} {c : Int} {t : Sl × Int} (ht : t = (s, (k : Int))) (hw : qli H1 x0 1 wU ws) (hcl : cur.length = ws.length) (hcw : cur.getD ((off + k) / 8) 0 = ws.getD ((off + k) / 8) 0)
  (hK : qa H0 H1) (hO : Own H0.size H1 s 2 eU (editsOf cur (off / 8) m)) (hm' : m ≤ 900)
  (hi : (off + k) / 8 = off / 8 + m) (hl : (off + k) / 8 < cur.length) (hc : 0 ≤ c ∧ c ≤ 255) (hoff : off + k ≤ 100000000) (hwl : ws.length ≤ 1000000)
  (hit : ∀ s' H', qa H0 H' → Own H0.size H' s' 2 eU (editsOf (putB cur (off + k) c) (off / 8) (m + 1)) → it (s', (k : Int) + 1) H') : qV.j2 x0 (off : Int) t it H1 c true := by
 subst ht
 unfold qV.j2
 rw [qk]
 simp only
 rw [qe (n := (off : Int) + (k : Int)) (by omega) (by omega), qlJ (by omega), qe (n := ((off : Int) + (k : Int)) / 8) (by omega) (by omega), hw.1]
 refine ⟨by decide, by decide, ⟨by omega, by omega⟩, ?_⟩
 have hidx : (((off : Int) + (k : Int)) / 8).toNat = (off + k) / 8 := by omega
 have hlt : (off + k) / 8 < ws.length := by omega
 obtain ⟨b, o, ha, hb, hcell⟩ := qbI (g := fun v => qkL .u64 v) hw hlt
 rw [ha, qd, hidx, hcell, qg]
 refine ⟨rfl, ?_⟩
 rw [qt]
 have hx : [qkL .i64 (((off : Int) + (k : Int)) / 8), qkL .u64 ws[(off + k) / 8]] = eU ((((off + k) / 8 : Nat) : Int), cur.getD ((off + k) / 8) 0) := by
  rw [hcw]
  simp only [eU, qkP, qkO hlt, qln]
  congr 1
 rw [hx]
 refine qbL (H0 := H0) (B := H0.size) (f := eU) (x := ((((off + k) / 8 : Nat) : Int), cur.getD ((off + k) / 8) 0)) (l := editsOf cur (off / 8) m) (fun _ => rfl) rfl hO (qkV _) hK.1 hK (by rw [qbw]; simp only [lim]; omega) ?_
 intro s' H' hO' hK' _ _
 have hl' : editsOf cur (off / 8) m ++ [((((off + k) / 8 : Nat) : Int), cur.getD ((off + k) / 8) 0)] = editsOf cur (off / 8) (m + 1) := by
  simp only [editsOf, qlW, List.map_append, qlN, List.map_nil, hi]
 rw [hl'] at hO'
 exact qhD rfl hK' hO' (by omega) (by omega) (by omega) hl hc hoff (fun H'' hK'' hO'' => hit s' H'' hK'' hO'')
theorem qV.s {ws bs : List Int} {k : Sl → Bool → AH → Prop} {offI : Int} (hw : qli H x0 1 wU ws) (h64 : qah ws) (hwl : ws.length ≤ 1000000) (hb : qli H x2 1 bU bs) (h8 : qbW bs) (ho : -9223372036854775808 ≤ offI ∧ offI ≤ 9223372036854775807)
  (h1 : inside ws.length offI bs.length → ∀ s H', qa H H' → Own H.size H' s 2 eU (editsOf (putBs ws offI.toNat bs) (offI.toNat / 8) (touched offI.toNat bs.length)) → k s true H')
  (h0 : ¬ inside ws.length offI bs.length → k ⟨none, 0, 0⟩ false H) : qV x0 offI x2 H k := by
 refine qV.link ?_
 unfold qV.b
 rw [hb.1]
 refine qbt.s (by rw [hw.1]; omega) ho ?_
 rw [hw.1]
 by_cases hin : inside ws.length offI bs.length
 ·rw [show decide (inside ws.length offI bs.length) = true from by simpa using hin, Bool.not_true, qc]
  have hin' := hin
  unfold inside at hin
  obtain ⟨off, rfl⟩ := qk9 hin.1
  simp only [qkS] at h1
  refine qL (t := ((⟨none, 0, 0⟩, (0 : Int)) : Sl × Int)) (H := H) (I := fun (t : Sl × Int) H' => ∃ j : Nat, t.2 = (j : Int) ∧ j ≤ bs.length ∧ qa H H' ∧ Own H.size H' t.1 2 eU (editsOf (putBs ws off (bs.take j)) (off / 8) (touched off j))) (m := fun (t : Sl × Int) _ => qkX ((bs.length : Int) - t.2)) ?_ ?_
  ·intro t H1 hI it hit
   obtain ⟨s, i⟩ := t
   obtain ⟨j, hi, hj, hK, hO⟩ := hI
   simp only at hi hO
   subst hi
   have hR := hw.keep hK
   have hB := hb.keep hK
   unfold qV.l3
   simp only
   rw [hb.1]
   by_cases hlt : j < bs.length
   ·rw [show decide ((j : Int) < (bs.length : Int)) = true from by simpa using hlt, qk]
    obtain ⟨b, o, ha, hbb, hcell⟩ := qbI (g := fun v => qkL .u8 v) hB hlt
    refine ⟨⟨by omega, by omega⟩, ?_⟩
    rw [ha, qd, qkS, hcell, qg]
    have hc := h8 _ (qk5 hlt)
    have hcl : (putBs ws off (bs.take j)).length = ws.length := qch _ _ _
    have hstep : putB (putBs ws off (bs.take j)) (off + j) bs[j] = putBs ws off (bs.take (j + 1)) := by
     rw [List.take_succ, qkO hlt, qmd, qi7, List.length_take, Nat.min_eq_left (by omega)]
    have hnext : ∀ s' H', qa H H' → Own H.size H' s' 2 eU (editsOf (putB (putBs ws off (bs.take j)) (off + j) bs[j]) (off / 8) (touched off (j + 1))) → it (s', (j : Int) + 1) H' := by
     intro s' H' hK' hO'
     rw [hstep] at hO'
     exact hit _ _ ⟨j + 1, by simp, by omega, hK', hO'⟩ (by simp only; omega)
    rw [own_n hO, qbw]
    have hlw : (off + j) / 8 < (putBs ws off (bs.take j)).length := by rw [hcl]; omega
    by_cases hj0 : j = 0
    ·subst hj0
     rw [show (((touched off 0 : Nat) : Int) == 0) = true from rfl, qk]
     refine qhi (m := 0) (cur := putBs ws off (bs.take 0)) rfl hR hcl rfl hK hO (by omega) (by omega) hlw hc (by omega) hwl ?_
     intro s' H' hK' hO'
     have : touched off (0 + 1) = 0 + 1 := by simp [touched]
     exact hnext s' H' hK' (by rw [this]; exact hO')
    ·have htm : touched off j = (off + j - 1) / 8 - off / 8 + 1 := by simp [touched, hj0]
     have htn : touched off (j + 1) = (off + j) / 8 - off / 8 + 1 := by simp [touched]
     have hle : touched off j ≤ 60 := by omega
     rw [show (((touched off j : Nat) : Int) == 0) = false from by simp; omega, qc, qe (n := ((touched off j : Nat) : Int) - 1) (by omega) (by omega)]
     refine ⟨⟨by omega, by omega⟩, ?_⟩
     have hget := qdk (cur := putBs ws off (bs.take j)) (q := off / 8) (show touched off j - 1 < touched off j from by omega)
     obtain ⟨b', ha', _, _, hcell'⟩ := hO.cell (fun _ => rfl) hget (j := 0) (by omega)
     have hidx : (((touched off j : Nat) : Int) - 1).toNat = touched off j - 1 := by omega
     rw [ha', qd, hidx, ql, ql, qla, hcell']
     show elI .i64 (some (qkL .i64 ((off / 8 + (touched off j - 1) : Nat) : Int))) _
     rw [qg, qe (n := (off : Int) + (j : Int)) (by omega) (by omega), qlJ (by omega), qe (n := ((off : Int) + (j : Int)) / 8) (by omega) (by omega)]
     refine ⟨by decide, ?_⟩
     by_cases hsame : (off + j) / 8 = off / 8 + touched off j - 1
     ·rw [show ((((off / 8 + (touched off j - 1) : Nat) : Int)) != ((off : Int) + (j : Int)) / 8) = false from by simp; omega]
      unfold qV.j2
      rw [qc]
      refine qhD (m := touched off j) (cur := putBs ws off (bs.take j)) rfl hK hO (by omega) (by omega) hsame hlw hc (by omega) ?_
      intro H' hK' hO'
      exact hnext s H' hK' (by rw [show touched off (j + 1) = touched off j from by omega]; exact hO')
     ·rw [show ((((off / 8 + (touched off j - 1) : Nat) : Int)) != ((off : Int) + (j : Int)) / 8) = true from by simp; omega]
      refine qhi (m := touched off j) (cur := putBs ws off (bs.take j)) rfl hR hcl ?_ hK hO (by omega) (by omega) hlw hc (by omega) hwl ?_
      ·exact qe5 _ _ _ _ (.inl (by rw [List.length_take]; omega)) (by rw [List.length_take]; omega)
      ·intro s' H' hK' hO'
       exact hnext s' H' hK' (by rw [show touched off (j + 1) = touched off j + 1 from by omega]; exact hO')
   ·rw [show decide ((j : Int) < (bs.length : Int)) = false from by simpa using hlt, qc]
    have hjn : j = bs.length := by omega
    subst hjn
    rw [List.take_length] at hO
    exact h1 hin' _ _ hK hO
  ·exact ⟨0, rfl, by omega, qa.refl H, .inl ⟨rfl, rfl⟩⟩
 ·rw [show decide (inside ws.length offI bs.length) = false from by simpa using hin, Bool.not_false, qk]
  exact h0 hin
end
theorem qfk {α : Type} (g : α → Value) (l : List α) : (l.flatMap fun x => [g x]) = l.map g := by
 induction l with
 | nil => rfl
 | cons a l ih => simp [ih]
theorem qfE {α : Type} {H : AH} {s : Sl} {g : α → Value} {l : List α} (hg : ∀ x, qo (g x) = true) (h : qli H s 1 (fun x => [g x]) l) : AH.rowS? H s 1 = some (l.map g) := by
 simp only [AH.rowS?]
 by_cases h0 : s.n = 0
 ·rw [if_pos h0]
  have : l = [] := List.length_eq_zero_iff.1 (by rw [← h.1]; exact h0)
  subst this; rfl
 ·rw [if_neg h0]
  have hpos : 0 < l.length := by rw [← h.1]; omega
  obtain ⟨b, o, ha, hb, hr0⟩ := h.at hpos
  rw [ha]
  simp only [Nat.mul_one]
  have hcell : ∀ i (hi : i < l.length), AH.cell? H ⟨b, o + i, none⟩ = some (g l[i]) := by
   intro i hi
   obtain ⟨b', o', ha', _, hr⟩ := qbI h hi
   rw [ha] at ha'
   injection ha' with ha'
   injection ha' with e1 e2 _
   subst e1 e2
   rw [ql, Nat.mul_one] at hr
   exact hr
  have hm : (H.get b).md ≠ .dead := by
   intro hm
   have := hcell 0 hpos
   simp [AH.cell?, hm] at this
  have hc : ∀ i (hi : i < l.length), (H.get b).cells[o + i]? = some (g l[i]) := by
   intro i hi
   have := hcell i hi
   simpa [AH.cell?, hm] using this
  have hlen : o + s.n ≤ (H.get b).cells.length := by
   have h1 := hc (l.length - 1) (by omega)
   have := (List.getElem?_eq_some_iff.1 h1).1
   have := h.1
   omega
  have htake : ((H.get b).cells.drop o).take s.n = l.map g := by
   apply qlb
   intro i
   by_cases hi : i < s.n
   ·have hi' : i < l.length := by rw [← h.1]; exact hi
    rw [qlD, if_pos hi, qlE, hc i hi', qkZ, qkO hi', qlg]
   ·rw [qkT (by simp; omega), qkT (by rw [List.length_map, ← h.1]; omega)]
  simp only [AH.row?, qk7, qkW, if_false]
  rw [if_neg hm, htake, if_pos ⟨hlen, by simp [hg]⟩]
theorem qU.s {H : AH} {sl : Sl} {ws : List Int} {k : Sl → AH → Prop} (hw : qli H sl 1 wU ws) (hwl : ws.length ≤ 1000000)
  (h : ∀ s H', qa H H' → Own H.size H' s 1 wU ws ∨ (ws = [] ∧ s.n = 0) → k s H') : qU sl H k := by
 refine qU.link ?_
 unfold qU.b
 cases ha : sl.a with
 | none =>
  rw [Option.isNone_none, qk]
  refine h _ _ (qa.refl H) (.inr ⟨?_, rfl⟩)
  cases ws with
  | nil => rfl
  | cons x r =>
   obtain ⟨a, h1, _⟩ := hw.2 0 x rfl
   rw [ha] at h1; cases h1
 | some a =>
  rw [Option.isNone_some, qc, qt]
  refine ⟨le_limS (by have := hw.1; simp only [lim]; omega) _, ?_⟩
  by_cases h0 : sl.n = 0
  ·rw [if_pos h0]
   refine h _ _ ((qa.refl H).push _) (.inr ⟨List.length_eq_zero_iff.1 (by rw [← hw.1]; exact h0), rfl⟩)
  ·rw [if_neg h0]
   have hr := qfE (g := fun v => qkL .u64 v) (fun _ => rfl) (hw.keep ((qa.refl H).push ⟨[], .rw, 1⟩))
   refine ⟨_, hr, ⟨rfl, rfl, rfl, by simp [qp], by simp [qp], by simp [qp]⟩, ?_⟩
   refine h _ _ ((((qa.refl H).push _).kill (b := H.size) (qkV _)).push _) (.inl (.inr ⟨H.size + 1, ?_, by omega, by simp [qi, qaR], ?_⟩))
   ·simp [newAt, qi, hw.1]
   ·simp only [qp, qaR, qi, if_true]
    simp only [List.nil_append, AObj.mk.injEq, and_true]
    exact (qfk (fun v => qkL .u64 v) ws).symm
def putE (ws : List Int) (x : Int × Int) : List Int := if 0 ≤ x.1 ∧ x.1 < ws.length then ws.set x.1.toNat x.2 else ws
def applyE (ws : List Int) (l : List (Int × Int)) : List Int := l.foldl putE ws
theorem qin (ws : List Int) (x : Int × Int) : (putE ws x).length = ws.length := by unfold putE; split <;> simp
theorem qaf (l : List (Int × Int)) : ∀ ws, (applyE ws l).length = ws.length := by
 induction l with
 | nil => intro ws; rfl
 | cons x r ih => intro ws; simp only [applyE, List.foldl_cons]; exact (ih _).trans (qin _ _)
theorem ed_put {H : AH} (x y : Int × Int) : AH.put (H.push ⟨eU x, .rw, 0⟩) ⟨H.size, 0, none⟩ (eU y) = H.push ⟨eU y, .rw, 0⟩ := qcP _ _ _ _ _
theorem ed_can {H : AH} (x : Int × Int) : AH.canPut (H.push ⟨eU x, .rw, 0⟩) ⟨H.size, 0, none⟩ 2 := qb4.2 (by simp [eU])
theorem ed_0 {H : AH} (x : Int × Int) : AH.cell? (H.push ⟨eU x, .rw, 0⟩) (qkN ⟨H.size, 0, none⟩ 0) = some (.int .i64 x.1) := qdf _ _ _ _
theorem ed_1 {H : AH} (x : Int × Int) : AH.cell? (H.push ⟨eU x, .rw, 0⟩) (qkN ⟨H.size, 0, none⟩ 1) = some (.int .u64 x.2) := qdf _ _ _ _
theorem ed_nil : ([(qkL .i64 (0 : Int)), (qkL .u64 (0 : Int))] : List Value) = eU (0, 0) := rfl
theorem qay.s {H : AH} {x0 x1 : Sl} {ws : List Int} {l : List (Int × Int)} {k : Sl → AH → Prop} (hw : qli H x0 1 wU ws) (hwl : ws.length ≤ 1000000) (hl : qli H x1 2 eU l) (hll : l.length ≤ 1000000)
  (h : ∀ s H', qa H H' → Own H.size H' s 1 wU (applyE ws l) ∨ (ws = [] ∧ s.n = 0) → k s H') : qay x0 x1 H k := by
 refine qay.link ?_
 unfold qay.b
 refine qU.s hw hwl ?_
 intro s9 H9 hK9 hO9
 refine qL (t := (0 : Int)) (H := H9) (I := fun (t : Int) H' => ∃ j : Nat, t = (j : Int) ∧ j ≤ l.length ∧ qa H H' ∧ (Own H.size H' s9 1 wU (applyE ws (l.take j)) ∨ (ws = [] ∧ s9.n = 0))) (m := fun (t : Int) _ => qkX ((l.length : Int) - t)) ?_ ⟨0, rfl, by omega, hK9, hO9⟩
 intro t H1 hI it hit
 obtain ⟨j, rfl, hj, hK, hO⟩ := hI
 have hR := hl.keep hK
 unfold qay.l2
 rw [hl.1]
 by_cases hlt : j < l.length
 ·rw [show decide ((j : Int) < (l.length : Int)) = true from by simpa using hlt, qk]
  obtain ⟨b, o, ha, hb, hrow⟩ := hR.at hlt
  refine ⟨⟨by omega, by omega⟩, ?_⟩
  rw [ha, qd, qkS, qs hrow]
  generalize hx : l[j] = x at *
  have htk : applyE ws (l.take (j + 1)) = putE (applyE ws (l.take j)) x := by
   rw [List.take_succ, qkO hlt, hx, qmd]
   simp [applyE, List.foldl_append]
  have hn : s9.n = ws.length := by
   rcases hO with hO | ⟨rfl, h0⟩
   ·rw [own_n hO, qaf]
   ·rw [h0]; rfl
  simp only [qt, qaL, ed_nil, ed_put, ed_can, ed_0, ed_1, qg, show (eU x).length = 2 from rfl, show (eU x).all qo = true from rfl, true_and]
  have hnext : ∀ H', qa H H' → (Own H.size H' s9 1 wU (putE (applyE ws (l.take j)) x) ∨ (ws = [] ∧ s9.n = 0)) → it ((j : Int) + 1) H' := by
   intro H' hK' hO'
   rw [← htk] at hO'
   exact hit _ _ ⟨j + 1, by simp, by omega, hK', hO'⟩ (by omega)
  have hO1 : Own H.size (H1.push ⟨eU x, .rw, 0⟩) s9 1 wU (applyE ws (l.take j)) ∨ (ws = [] ∧ s9.n = 0) :=
   hO.imp (fun hO => hO.keep (by simp [qi]) (fun b _ hb => qG (by omega))) id
  unfold qay.j1
  simp only [ed_0, ed_1, qg]
  rw [qe (n := (j : Int) + 1) (by omega) (by omega), hn]
  by_cases h0 : x.1 ≥ 0
  ·rw [show decide (x.1 ≥ 0) = true from by simpa using h0, qk]
   by_cases h1 : x.1 < (ws.length : Int)
   ·rw [show decide (x.1 < (ws.length : Int)) = true from by simpa using h1, qk]
    refine ⟨⟨h0, h1⟩, ?_⟩
    rcases hO1 with hO1 | ⟨rfl, _⟩
    ·have hlw : x.1.toNat < (applyE ws (l.take j)).length := by rw [qaf]; omega
     obtain ⟨b', ha', hb1, hb2, hcan, hO', _⟩ := hO1.put (y := x.2) (fun _ => rfl) (qkO hlw) (j := 0) (by omega) (v := .int .u64 x.2) rfl
     rw [ha', qd, ql, qla]
     refine ⟨hcan, ?_⟩
     refine hnext _ ((hK.push _).put hb1 _) (.inl ?_)
     have hp : putE (applyE ws (l.take j)) x = (applyE ws (l.take j)).set x.1.toNat x.2 := by
      unfold putE; rw [if_pos ⟨h0, by rw [qaf]; exact h1⟩]
     rw [hp]; exact hO'
    ·simp at h1; omega
   ·rw [show decide (x.1 < (ws.length : Int)) = false from by simpa using h1, qc]
    refine hnext _ (hK.push _) (hO1.imp (fun hO => ?_) id)
    have hp : putE (applyE ws (l.take j)) x = applyE ws (l.take j) := by unfold putE; rw [if_neg (by rw [qaf]; omega)]
    rw [hp]; exact hO
  ·rw [show decide (x.1 ≥ 0) = false from by simpa using h0, qc, qc]
   refine hnext _ (hK.push _) (hO1.imp (fun hO => ?_) id)
   have hp : putE (applyE ws (l.take j)) x = applyE ws (l.take j) := by unfold putE; rw [if_neg (by omega)]
   rw [hp]; exact hO
 ·rw [show decide ((j : Int) < (l.length : Int)) = false from by simpa using hlt, qc]
  have : j = l.length := by omega
  subst this
  rw [List.take_length] at hO
  exact h _ _ hK hO
theorem qh5 {ws : List Int} (h64 : qah ws) {i p : Nat} {c : Int} (hi : i / 8 < ws.length) (hp : p / 8 < ws.length) (hc : 0 ≤ c ∧ c ≤ 255) : byteAt (putB ws i c) p = if p = i then c else byteAt ws p := by
 unfold byteAt
 rw [qe2 _ _ _ _ hi]
 by_cases hw : p / 8 = i / 8
 ·rw [if_pos hw]
  by_cases hpi : p = i
  ·subst hpi; rw [if_pos rfl, qgm (by omega) hc]
  ·rw [if_neg hpi, ← hw]
   have hv : 0 ≤ ws.getD (p / 8) 0 ∧ ws.getD (p / 8) 0 ≤ 18446744073709551615 := by
    rw [qkP, qkO hp, qln]
    exact h64 _ (qk5 hp)
   exact qfS hv (by omega) (by omega) (by omega) hc
 ·rw [if_neg hw, if_neg (by intro h; exact hw (by rw [h]))]
theorem qdt : ∀ (bs ws : List Int) (i : Nat), qah ws → qah (putBs ws i bs) := by
 intro bs
 induction bs with
 | nil => intro ws i h; exact h
 | cons c r ih => intro ws i h; exact ih _ _ (qeH h i c)
theorem qeV : ∀ (bs ws : List Int) (i p : Nat), qah ws → qbW bs → i + bs.length ≤ ws.length * 8 → p / 8 < ws.length →
  byteAt (putBs ws i bs) p = if i ≤ p ∧ p < i + bs.length then bs.getD (p - i) 0 else byteAt ws p := by
 intro bs
 induction bs with
 | nil => intro ws i p _ _ _ _; rw [if_neg (by simp)]; rfl
 | cons c r ih =>
  intro ws i p h64 h8 hl hp
  simp only [qk3] at hl
  simp only [putBs]
  rw [ih _ _ _ (qeH h64 i c) (fun v hv => h8 v (by simp [hv])) (by rw [qdo]; omega) (by rw [qdo]; exact hp), qh5 h64 (by omega) hp (h8 c (by simp))]
  simp only [qk3]
  by_cases h1 : i + 1 ≤ p ∧ p < i + 1 + r.length
  ·rw [if_pos h1, if_pos (by omega)]
   obtain ⟨d, hd⟩ : ∃ d, p - i = d + 1 := ⟨p - i - 1, by omega⟩
   rw [hd, List.getD_cons_succ]
   congr 1; omega
  ·rw [if_neg h1]
   by_cases h2 : p = i
   ·subst h2; rw [if_pos rfl, if_pos (by omega)]; simp
   ·rw [if_neg h2, if_neg (by omega)]
theorem qjU {a b : List Int} (hl : a.length = b.length) (h : ∀ w, w < a.length → a.getD w 0 = b.getD w 0) : a = b := by
 apply qlb
 intro w
 by_cases hw : w < a.length
 ·have := h w hw
  simp only [qkP, qkO hw, qkO (show w < b.length by omega), qln] at this
  rw [qkO hw, qkO (show w < b.length by omega), this]
 ·rw [qkT (by omega), qkT (by omega)]
theorem qhr (cur : List Int) (q m : Nat) : editsOf cur q (m + 1) = editsOf cur q m ++ [(((q + m : Nat) : Int), cur.getD (q + m) 0)] := by
 simp only [editsOf, qlW, List.map_append, qlN, List.map_nil]
theorem qiq {ws cur : List Int} {q : Nat} : ∀ (m w : Nat), q + m ≤ ws.length → (applyE ws (editsOf cur q m)).getD w 0 = if q ≤ w ∧ w < q + m then cur.getD w 0 else ws.getD w 0 := by
 intro m
 induction m with
 | zero => intro w _; rw [if_neg (by omega)]; rfl
 | succ m ih =>
  intro w hm
  rw [qhr]
  have : applyE ws (editsOf cur q m ++ [(((q + m : Nat) : Int), cur.getD (q + m) 0)]) = putE (applyE ws (editsOf cur q m)) (((q + m : Nat) : Int), cur.getD (q + m) 0) := by simp [applyE, List.foldl_append]
  rw [this]
  unfold putE
  rw [if_pos ⟨by simp only; omega, by simp only [qaf]; omega⟩]
  simp only [qkS]
  by_cases hw : w = q + m
  ·subst hw
   rw [if_pos (by omega), qkP, qlu (by rw [qaf]; omega), qln]
  ·have h2 : ((applyE ws (editsOf cur q m)).set (q + m) (cur.getD (q + m) 0)).getD w 0 = (applyE ws (editsOf cur q m)).getD w 0 := by
    simp only [qkP]
    rw [qle (by omega)]
   rw [h2, ih w (by omega)]
   by_cases h3 : q ≤ w ∧ w < q + m
   ·rw [if_pos h3, if_pos (by omega)]
   ·rw [if_neg h3, if_neg (by omega)]
theorem qhm {ws bs : List Int} {off : Nat} (hl : off + bs.length ≤ ws.length * 8) : applyE ws (editsOf (putBs ws off bs) (off / 8) (touched off bs.length)) = putBs ws off bs := by
 have hm : off / 8 + touched off bs.length ≤ ws.length ∨ bs = [] := by
  cases bs with
  | nil => exact .inr rfl
  | cons c r => left; simp only [qk3, touched] at hl ⊢; rw [if_neg (by omega)]; omega
 rcases hm with hm | rfl
 ·refine qjU (by rw [qaf, qch]) fun w _ => ?_
  rw [qiq _ _ hm]
  split
  ·rfl
  ·rename_i hw
   by_cases h0 : bs.length = 0
   ·have : bs = [] := List.length_eq_zero_iff.1 h0
    subst this; rfl
   ·have : touched off bs.length = (off + bs.length - 1) / 8 - off / 8 + 1 := by simp [touched, h0]
    exact (qe5 _ _ _ _ (by omega) hl).symm
 ·rfl
theorem qgX {ws bs : List Int} {off : Nat} (h64 : qah ws) (h8 : qbW bs) (hl : off + bs.length ≤ ws.length * 8) : bytesOf (putBs ws off bs) off bs.length = bs := by
 apply qlb
 intro j
 by_cases hj : j < bs.length
 ·simp only [bytesOf, qkZ, List.getElem?_range hj, qlg]
  rw [qeV _ _ _ _ h64 h8 hl (by omega), if_pos (by omega), show off + j - off = j from by omega, qkP, qkO hj, qln]
 ·rw [qkT (by simp [bytesOf]; omega), qkT (by omega)]
abbrev Bk : Type := Int × Int × Bool
def bkV (b : Bk) : List Value := [.int .i64 b.1, .int .i64 b.2.1, .bool b.2.2]
theorem bkV_len (b : Bk) : (bkV b).length = 3 := rfl
theorem bkV_ok (b : Bk) : (bkV b).all qo = true := rfl
def needN (n : Int) : Int := if 1 ≤ n ∧ n ≤ 448 then 1 + (n + 7) / 8 else 0
def takesN (size need : Int) : Int := if 2 ≤ need ∧ need ≤ size then (if size - need < 2 then size else need) else 0
def mayS (n : Int) : Prop := 2 ≤ n ∧ n ≤ 512
instance (n : Int) : Decidable (mayS n) := by unfold mayS; infer_instance
def wordN (n : Int) (u : Bool) : Int := if mayS n then 2 * n + (if u then 1 else 0) else 0
def offN (pt : Int) : Int := if 0 ≤ pt ∧ pt ≤ 512 then (pt + 1) * 8 else 0
def mayW (n : Int) : Prop := 8 ≤ n ∧ n ≤ 512 ∧ n % 8 = 0
instance (n : Int) : Decidable (mayW n) := by unfold mayW; infer_instance
theorem shr1 {v : Int} (h : 0 ≤ v) : shrI .u64 v 1 = v / 2 := by
 unfold shrI
 rw [Int.fdiv_eq_ediv_of_nonneg _ (by decide)]
 rfl
theorem and1w {v : Int} (h : isU v) : andI .u64 v 1 = v % 2 := by
 unfold isU at h
 obtain ⟨n, rfl⟩ := qk9 h.1
 have hn : n < 2 ^ 64 := by omega
 unfold andI
 have e : (qlz (qlI .u64) (n : Int) &&& qlz (qlI .u64) 1).toNat = n % 2 := by
  rw [BitVec.toNat_and]
  have e1 : (qlz (qlI .u64) (n : Int)).toNat = n := by
   show (qlz 64 (n : Int)).toNat = n
   rw [BitVec.toNat_ofInt]
   omega
  have e2 : (qlz (qlI .u64) 1).toNat = 1 := rfl
  rw [e1, e2, Nat.and_one_is_mod]
 rw [e, qbe (by omega) (by omega)]
 omega
theorem shl1 {n : Int} (h : mayS n) : shlI .u64 (qkM .u64 n) 1 = 2 * n := by
 unfold mayS at h
 unfold shlI
 rw [qbe (n := n) (by omega) (by omega)]
 have : (2 : Int) ^ (min (qkX 1) (qlI .u64)) = 2 := rfl
 rw [this, qbe (by omega) (by omega)]; omega
theorem or1 {n : Int} (h : mayS n) : orI .u64 (2 * n) 1 = 2 * n + 1 := by
 unfold mayS at h
 obtain ⟨m, rfl⟩ := qk9 (show 0 ≤ n by omega)
 have hm : m < 513 := by omega
 have key : ∀ m : Fin 513, orI .u64 (2 * ((m.val : Nat) : Int)) 1 = 2 * ((m.val : Nat) : Int) + 1 := by decide +kernel
 exact key ⟨m, hm⟩
section
variable {H : AH}
def BkAt (H : AH) (o : Nat) (b : Bk) : Prop := ∃ e, H.get o = ⟨bkV b, .rw, e⟩
theorem BkAt.c0 {o : Nat} {b : Bk} (h : BkAt H o b) : AH.cell? H (qkN ⟨o, 0, none⟩ 0) = some (.int .i64 b.1) := by obtain ⟨e, h⟩ := h; simp [ql, AH.cell?, h, bkV]
theorem BkAt.c1 {o : Nat} {b : Bk} (h : BkAt H o b) : AH.cell? H (qkN ⟨o, 0, none⟩ 1) = some (.int .i64 b.2.1) := by obtain ⟨e, h⟩ := h; simp [ql, AH.cell?, h, bkV]
theorem BkAt.c2 {o : Nat} {b : Bk} (h : BkAt H o b) : AH.cell? H (qkN ⟨o, 0, none⟩ 2) = some (.bool b.2.2) := by obtain ⟨e, h⟩ := h; simp [ql, AH.cell?, h, bkV]
theorem BkAt.row {o : Nat} {b : Bk} (h : BkAt H o b) : AH.row? H ⟨o, 0, none⟩ 3 = some (bkV b) := by
 obtain ⟨e, h⟩ := h
 simp only [AH.row?, h, qk7, qkW, if_false, List.drop_zero]
 rw [if_neg (by simp), qlH (by rw [bkV_len]; omega), if_pos ⟨by rw [bkV_len]; omega, bkV_ok _⟩]
theorem BkAt.keep {H' : AH} {o : Nat} {b : Bk} (h : BkAt H o b) (hg : H'.get o = H.get o) : BkAt H' o b := by obtain ⟨e, h⟩ := h; exact ⟨e, hg.trans h⟩
theorem BkAt.new {b : Bk} {e : Nat} : BkAt (H.push ⟨bkV b, .rw, e⟩) H.size b := ⟨e, by rw [qp, if_pos rfl]⟩
theorem qbM {α : Type} {s : Sl} {z : Nat} {f : α → List Value} {l : List α} (h : qli H s z f l) (hp : 0 < l.length) :
  ∃ b o, s.a = some ⟨b, o, none⟩ ∧ b < H.size ∧ ∀ i x, l[i]? = some x → AH.row? H (qkN ⟨b, o, none⟩ (i * z)) z = some (f x) ∧ ∀ j v, (f x)[j]? = some v → AH.cell? H (qkN (qkN ⟨b, o, none⟩ (i * z)) j) = some v := by
 obtain ⟨b, o, h1, h2, _⟩ := h.at hp
 refine ⟨b, o, h1, h2, fun i x hx => ?_⟩
 obtain ⟨a, e1, e2, e3, e4⟩ := h.2 i x hx
 rw [h1] at e1
 injection e1 with e1
 subst e1
 rw [ql]
 refine ⟨e4, fun j v hv => ?_⟩
 rw [ql]
 exact (AH.row?_cell e4).2.2.2.2 j v hv
theorem qbX {cs vs : List Value} {e n : Nat} {K : Nat → AH → Prop} (hc : cs.length = n) (hv : vs.length = n) (ho : vs.all qo = true)
  (hK : K H.size (H.push ⟨vs, .rw, e⟩)) : newC H ⟨cs, .rw, e⟩ fun o H1 => (vs.length = n ∧ vs.all qo = true) ∧ stC H1 ⟨o, 0, none⟩ vs fun Hs => K o Hs := by
 rw [qt]
 refine ⟨⟨hv, ho⟩, ?_⟩
 rw [qaL]
 have e1 : AH.put (H.push ⟨cs, .rw, e⟩) ⟨H.size, 0, none⟩ vs = H.push ⟨vs, .rw, e⟩ := by
  rw [qcP]
  congr 2
  apply qlb
  intro t
  rw [qbG _ _ _ _ (by omega)]
  by_cases ht : t < vs.length
  ·rw [if_pos (by omega)]; rfl
  ·rw [if_neg (by omega), qkT (by omega), qkT (by omega)]
 rw [e1]
 exact ⟨qb4.2 (by omega), hK⟩
end
def chainB (words : Int) : Int → Bool → List Bk → Prop
 | pt, _, [] => pt = words
 | pt, pu, b :: r => b.1 = pt ∧ mayS b.2.1 ∧ b.2.1 ≤ words - pt ∧ (pu = true ∨ b.2.2 = true) ∧ chainB words (pt + b.2.1) b.2.2 r
instance chainB.dec {words : Int} : ∀ (l : List Bk) (pt : Int) (pu : Bool), Decidable (chainB words pt pu l)
 | [], pt, pu => by unfold chainB; infer_instance
 | b :: r, pt, pu => by
  unfold chainB
  have := chainB.dec (words := words) r (pt + b.2.1) b.2.2
  infer_instance
def MayB (l : List Bk) (words : Int) : Prop := mayW words ∧ chainB words 0 true l
instance {l : List Bk} {words : Int} : Decidable (MayB l words) := by unfold MayB; infer_instance
def puAt (l : List Bk) : Nat → Bool
 | 0 => true
 | i + 1 => (l.getD i (0, 0, false)).2.2
theorem qfb {α : Type} {l : List α} {i : Nat} (hi : i < l.length) : l.drop i = l[i] :: l.drop (i + 1) := by
 rw [List.drop_eq_getElem_cons hi]
section
variable {H : AH}
def blkFrom (ws : List Int) (pt : Nat) : Option (List Bk) :=
 if h : pt < ws.length then
  if h2 : mayS (ws.getD pt 0 / 2) then (blkFrom ws (pt + (ws.getD pt 0 / 2).toNat)).map (((pt : Int), ws.getD pt 0 / 2, (ws.getD pt 0 % 2 == 1)) :: ·) else none
 else some []
termination_by ws.length - pt
decreasing_by unfold mayS at h2; omega
theorem qdc (ws : List Int) (pt : Nat) : blkFrom ws pt = if h : pt < ws.length then
  if h2 : mayS (ws.getD pt 0 / 2) then (blkFrom ws (pt + (ws.getD pt 0 / 2).toNat)).map (((pt : Int), ws.getD pt 0 / 2, (ws.getD pt 0 % 2 == 1)) :: ·) else none
 else some [] := by rw [blkFrom]
def blocksN (ws : List Int) : Option (List Bk) := (blkFrom ws 0).bind fun l => if MayB l ws.length then some l else none
theorem qa0 {ws : List Int} {l : List Bk} (h : blocksN ws = some l) : MayB l ws.length := by
 unfold blocksN at h
 rw [Option.bind_eq_some_iff] at h
 obtain ⟨l', _, h2⟩ := h
 split at h2
 ·injection h2 with h2; subst h2; assumption
 ·cases h2
theorem chainB.le {words : Int} : ∀ {l : List Bk} {pt : Int} {pu : Bool}, chainB words pt pu l → pt + 2 * l.length ≤ words := by
 intro l
 induction l with
 | nil => intro pt pu h; simp only [chainB] at h; simp; omega
 | cons b r ih =>
  intro pt pu h
  have := ih h.2.2.2.2
  have := h.2.1
  unfold mayS at this
  simp only [qk3]; omega
theorem chainB.mem {words : Int} : ∀ {l : List Bk} {pt : Int} {pu : Bool}, chainB words pt pu l → ∀ b ∈ l, pt ≤ b.1 ∧ b.1 + b.2.1 ≤ words ∧ mayS b.2.1 := by
 intro l
 induction l with
 | nil => intro pt pu h b hb; cases hb
 | cons a r ih =>
  intro pt pu h b hb
  have hs := h.2.1
  unfold mayS at hs
  rw [qk8] at hb
  rcases hb with rfl | hb
  ·have := h.2.2.1; have := h.1; exact ⟨by omega, by omega, h.2.1⟩
  ·have := ih h.2.2.2.2 b hb; exact ⟨by omega, this.2⟩
theorem MayB.len {l : List Bk} {words : Int} (h : MayB l words) : 2 * (l.length : Int) ≤ words ∧ words ≤ 512 := by
 have := h.2.le; have := h.1.2.1; omega
theorem MayB.mem {l : List Bk} {words : Int} (h : MayB l words) {b : Bk} (hb : b ∈ l) : 0 ≤ b.1 ∧ b.1 + b.2.1 ≤ words ∧ 2 ≤ b.2.1 ∧ b.2.1 ≤ 512 := by
 have := h.2.mem b hb; have h2 := this.2.2; unfold mayS at h2; omega
end
def nV (i : Nat) : List Value := [.int .i64 (i : Int)]
def bkAt (l : List Bk) (i : Nat) : Bk := l.getD i (0, 0, false)
def fitStep (l : List Bk) (need : Int) (out : List Nat) (i : Nat) : List Nat :=
 if (bkAt l i).2.2 = true ∨ (bkAt l i).2.1 < need then out else
 let out1 := if 0 < out.length ∧ (bkAt l (out.getD 0 0)).2.1 > (bkAt l i).2.1 then [] else out
 if out1.length = 0 ∨ (bkAt l (out1.getD 0 0)).2.1 = (bkAt l i).2.1 then out1 ++ [i] else out1
def fitsTo (l : List Bk) (need : Int) (j : Nat) : List Nat := (qlw j).foldl (fitStep l need) []
def fitsL (l : List Bk) (need : Int) : List Nat := if need < 2 then [] else fitsTo l need l.length
theorem qd3 (l : List Bk) (need : Int) (j : Nat) : fitsTo l need (j + 1) = fitStep l need (fitsTo l need j) j := by
 unfold fitsTo; rw [qlW, List.foldl_append]; rfl
theorem qim {l : List Bk} {need : Int} {out : List Nat} {i j : Nat} (h : j ∈ fitStep l need out i) : j ∈ out ∨ (j = i ∧ (bkAt l i).2.2 = false ∧ need ≤ (bkAt l i).2.1) := by
 unfold fitStep at h
 split at h
 ·exact .inl h
 ·rename_i h1
  simp only at h
  have h3 : (bkAt l i).2.2 = false ∧ need ≤ (bkAt l i).2.1 := by
   constructor
   ·cases hh : (bkAt l i).2.2
    ·rfl
    ·exact absurd (.inl hh) h1
   ·exact Int.not_lt.1 fun hh => h1 (.inr hh)
  have hsub : ∀ x, x ∈ (if 0 < out.length ∧ (bkAt l (out.getD 0 0)).2.1 > (bkAt l i).2.1 then [] else out) → x ∈ out := by
   intro x hx
   split at hx
   ·cases hx
   ·exact hx
  generalize (if 0 < out.length ∧ (bkAt l (out.getD 0 0)).2.1 > (bkAt l i).2.1 then [] else out) = o1 at h hsub
  split at h
  ·rw [List.mem_append] at h
   rcases h with h | h
   ·exact .inl (hsub _ h)
   ·simp at h; exact .inr ⟨h, h3⟩
  ·exact .inl (hsub _ h)
theorem qdv {l : List Bk} {need : Int} : ∀ {j i : Nat}, i ∈ fitsTo l need j → i < j ∧ (bkAt l i).2.2 = false ∧ need ≤ (bkAt l i).2.1 := by
 intro j
 induction j with
 | zero => intro i h; cases h
 | succ j ih =>
  intro i h
  rw [qd3] at h
  rcases qim h with h | ⟨rfl, h⟩
  ·have := ih h; exact ⟨by omega, this.2⟩
  ·exact ⟨by omega, h⟩
theorem qf1 {l : List Bk} {need : Int} : ∀ {j : Nat}, (fitsTo l need j).length ≤ j := by
 intro j
 induction j with
 | zero => exact qkV _
 | succ j ih =>
  rw [qd3]
  unfold fitStep
  split
  ·omega
  ·simp only
   have hx : (if 0 < (fitsTo l need j).length ∧ (bkAt l ((fitsTo l need j).getD 0 0)).2.1 > (bkAt l j).2.1 then [] else fitsTo l need j).length ≤ j := by
    split
    ·exact Nat.zero_le _
    ·exact ih
   generalize (if 0 < (fitsTo l need j).length ∧ (bkAt l ((fitsTo l need j).getD 0 0)).2.1 > (bkAt l j).2.1 then [] else fitsTo l need j) = o1 at *
   split
   ·rw [List.length_append]; simp only [qk3, List.length_nil]; omega
   ·omega
theorem qaF {l : List Bk} {i : Nat} (hi : i < l.length) : l[i]? = some (bkAt l i) := by
 unfold bkAt; rw [qkP, qkO hi]; rfl
def countN (pt : Int) (cs : List Int) : Int := if pt < 0 ∨ (cs.length : Int) ≤ pt / 32 then 0 else cs.getD (pt / 32).toNat 0
def chStep (l : List Bk) (cs : List Int) (best : Int) (i : Nat) : Int :=
 if best < 0 ∨ countN (bkAt l i).1 cs < countN (bkAt l best.toNat).1 cs ∨ (countN (bkAt l i).1 cs = countN (bkAt l best.toNat).1 cs ∧ (bkAt l i).1 < (bkAt l best.toNat).1) then (i : Int) else best
def chooseN (l : List Bk) (need : Int) (cs : List Int) : Int := (fitsL l need).foldl (chStep l cs) (-1)
theorem qer {l : List Bk} {cs : List Int} : ∀ {f : List Nat} {b : Int}, f.foldl (chStep l cs) b = b ∨ ∃ i ∈ f, f.foldl (chStep l cs) b = (i : Int) := by
 intro f
 induction f with
 | nil => intro b; exact .inl rfl
 | cons a r ih =>
  intro b
  simp only [List.foldl_cons]
  rcases ih (b := chStep l cs b a) with h | ⟨i, hi, h⟩
  ·rw [h]
   unfold chStep
   split
   ·exact .inr ⟨a, by simp, rfl⟩
   ·exact .inl rfl
  ·exact .inr ⟨i, by simp [hi], h⟩
theorem qd6 {l : List Bk} {need : Int} {cs : List Int} : chooseN l need cs = -1 ∨ ∃ i : Nat, chooseN l need cs = (i : Int) ∧ i < l.length ∧ (bkAt l i).2.2 = false ∧ need ≤ (bkAt l i).2.1 ∧ 2 ≤ need := by
 unfold chooseN
 rcases qer (l := l) (cs := cs) (f := fitsL l need) (b := -1) with h | ⟨i, hi, h⟩
 ·exact .inl h
 ·unfold fitsL at hi
  split at hi
  ·cases hi
  ·obtain ⟨h1, h2, h3⟩ := qdv hi
   exact .inr ⟨i, h, h1, h2, h3, by omega⟩
def isN (off : Int) : List Bk → Nat → Int
 | [], _ => -1
 | b :: r, i => if b.2.2 = true ∧ offN b.1 = off then (i : Int) else isN off r (i + 1)
theorem qdp (off : Int) : ∀ (l : List Bk) (i : Nat), isN off l i = -1 ∨ ∃ j : Nat, isN off l i = ((i + j : Nat) : Int) ∧ j < l.length ∧ (bkAt l j).2.2 = true ∧ offN (bkAt l j).1 = off := by
 intro l
 induction l with
 | nil => intro i; exact .inl rfl
 | cons b r ih =>
  intro i
  unfold isN
  split
  ·rename_i h; exact .inr ⟨0, rfl, by simp, h.1, h.2⟩
  ·rcases ih (i + 1) with h | ⟨j, h1, h2, h3⟩
   ·exact .inl h
   ·exact .inr ⟨j + 1, by rw [h1]; congr 1; omega, by simpa using h2, h3⟩
def inB (off n : Int) (b : Bk) : Prop := b.2.2 = true ∧ offN b.1 ≤ off ∧ off ≤ (b.1 + b.2.1) * 8 ∧ n ≤ (b.1 + b.2.1) * 8 - off
def withinN (l : List Bk) (off n : Int) : Prop := 0 ≤ n ∧ n ≤ 448 ∧ ∃ b ∈ l, inB off n b
def carveTo (pt tk : Int) (j : Nat) : List (Int × Int) := (pt, wordN tk true) :: (qlw (j - 1)).map fun (t : Nat) => (pt + ((t : Int) + 1), (0 : Int))
def carveE (b : Bk) (need : Int) : List (Int × Int) :=
 carveTo b.1 (takesN b.2.1 need) (takesN b.2.1 need).toNat ++ (if takesN b.2.1 need < b.2.1 then [(b.1 + takesN b.2.1 need, wordN (b.2.1 - takesN b.2.1 need) false)] else [])
theorem qe4 (pt tk : Int) {j : Nat} (hj : 1 ≤ j) : carveTo pt tk (j + 1) = carveTo pt tk j ++ [(pt + (j : Int), 0)] := by
 unfold carveTo
 obtain ⟨i, rfl⟩ : ∃ i, j = i + 1 := ⟨j - 1, by omega⟩
 simp only [Nat.add_sub_cancel, qlW, List.map_append, qlN, List.map_nil, qlr]
 congr 2
theorem eU_len (x : Int × Int) : (eU x).length = 2 := rfl
theorem eU_ok (x : Int × Int) : (eU x).all qo = true := rfl
def mFrom (l : List Bk) (i : Nat) : Nat := if 0 < i ∧ (bkAt l (i - 1)).2.2 = false then i - 1 else i
def mTo (l : List Bk) (i : Nat) : Nat := if i + 1 < l.length ∧ (bkAt l (i + 1)).2.2 = false then i + 2 else i + 1
def sumTo (l : List Bk) (a : Nat) : Nat → Int
 | 0 => 0
 | j + 1 => sumTo l a j + (bkAt l (a + j)).2.1
theorem qci {α : Type} {B B' : Nat} {H : AH} {s : Sl} {z : Nat} {f : α → List Value} {l : List α} (h : Own B H s z f l) (hb : B' ≤ B) : Own B' H s z f l :=
 h.imp id fun ⟨b, e, h1, h2, h3⟩ => ⟨b, e, Nat.le_trans hb h1, h2, h3⟩
theorem qc2 {α : Type} {H : AH} {z : Nat} {f : α → List Value} : qli H ⟨none, 0, 0⟩ z f [] := ⟨rfl, fun i x h => by simp at h⟩
instance {off n : Int} {b : Bk} : Decidable (inB off n b) := by unfold inB; infer_instance
instance {l : List Bk} {off n : Int} : Decidable (withinN l off n) := by unfold withinN; infer_instance
def imgAlloc (ws : List Int) (n : Int) (cs : List Int) : List (Int × Int) × Int × Int :=
 if needN n = 0 then ([], 0, 1) else
 match blocksN ws with
 | none => ([], 0, 6)
 | some l => if chooseN l (needN n) cs < 0 then ([], 0, 4) else (carveE (bkAt l (chooseN l (needN n) cs).toNat) (needN n), offN (bkAt l (chooseN l (needN n) cs).toNat).1, 0)
def imgFree (ws : List Int) (off : Int) : List (Int × Int) × Int :=
 match blocksN ws with
 | none => ([], 6)
 | some l => if isN off l 0 < 0 then ([], 1) else
  ([((bkAt l (mFrom l (isN off l 0).toNat)).1, wordN (sumTo l (mFrom l (isN off l 0).toNat) (mTo l (isN off l 0).toNat - mFrom l (isN off l 0).toNat)) false)], 0)
def imgWrite (ws : List Int) (off : Int) (bs : List Int) : List (Int × Int) × Int :=
 match blocksN ws with
 | none => ([], 6)
 | some l => if withinN l off bs.length then (editsOf (putBs ws off.toNat bs) (off.toNat / 8) (touched off.toNat bs.length), 0) else ([], 1)
theorem qcz {ws : List Int} {l : List Bk} {off n : Int} (hB : MayB l ws.length) (h : withinN l off n) : inside ws.length off n := by
 obtain ⟨h1, h2, b, hb, hi⟩ := h
 have hm := hB.mem hb
 have hl := hB.len
 obtain ⟨_, h3, h4, h5⟩ := hi
 have : offN b.1 = (b.1 + 1) * 8 := by unfold offN; rw [if_pos (by omega)]
 unfold inside
 omega
section
variable {H : AH}
def firstN (n : Int) : List Int := if mayW n then wordN n false :: List.replicate (n.toNat - 1) 0 else []
theorem wordN_u (n : Int) (u : Bool) : isU (wordN n u) := by
 unfold wordN isU
 split
 ·rename_i h; unfold mayS at h; split <;> omega
 ·omega
theorem qdC (n : Int) : qah (firstN n) := by
 intro v hv
 unfold firstN at hv
 split at hv
 ·rw [qk8] at hv
  rcases hv with rfl | hv
  ·exact wordN_u _ _
  ·rw [List.eq_of_mem_replicate hv]; omega
 ·cases hv
end
def insS (n : Int) : List Int → List Int
 | [] => [n]
 | a :: r => if a < n then a :: insS n r else if a = n then a :: r else n :: a :: r
def posN (n : Int) : List Int → Nat
 | [] => 0
 | a :: r => if a < n then posN n r + 1 else 0
def eStep (out : List Int) (e : Int × Int) : List Int := if e.1 < 0 then out else insS (e.1 / 8) out
def eLines (l : List (Int × Int)) : List Int := l.foldl eStep []
theorem posN_le (n : Int) : ∀ l : List Int, posN n l ≤ l.length := by
 intro l
 induction l with
 | nil => exact qkV _
 | cons a r ih => simp only [posN, qk3]; split <;> omega
theorem insS_eq (n : Int) : ∀ out : List Int, insS n out = if posN n out = out.length ∨ out.getD (posN n out) 0 ≠ n then out.take (posN n out) ++ [n] ++ out.drop (posN n out) else out := by
 intro out
 induction out with
 | nil => simp [insS, posN]
 | cons a r ih =>
  by_cases h1 : a < n
  ·have e : posN n (a :: r) = posN n r + 1 := by simp only [posN]; rw [if_pos h1]
   have e2 : insS n (a :: r) = a :: insS n r := by simp only [insS]; rw [if_pos h1]
   simp only [e, e2, ih, qk3, List.getD_cons_succ, List.take_succ_cons, List.drop_succ_cons, Nat.add_right_cancel_iff]
   split <;> rfl
  ·have e : posN n (a :: r) = 0 := by simp only [posN]; rw [if_neg h1]
   have e2 : insS n (a :: r) = if a = n then a :: r else n :: a :: r := by simp only [insS]; rw [if_neg h1]
   simp only [e, e2]
   by_cases h2 : a = n
   ·subst h2; rw [if_pos rfl, if_neg (by simp)]
   ·rw [if_neg h2, if_pos (.inr (by simpa using h2))]; rfl
theorem qft (n : Int) : ∀ out : List Int, ∀ x, x ∈ insS n out ↔ x = n ∨ x ∈ out := by
 intro out
 induction out with
 | nil => intro x; simp [insS]
 | cons a r ih =>
  intro x
  simp only [insS]
  split
  ·rw [qk8, ih, qk8]
   constructor
   ·rintro (h | h | h)
    ·exact .inr (.inl h)
    ·exact .inl h
    ·exact .inr (.inr h)
   ·rintro (h | h | h)
    ·exact .inr (.inl h)
    ·exact .inl h
    ·exact .inr (.inr h)
  ·split
   ·rename_i h2; subst h2; simp
   ·simp
theorem qh3 (n : Int) : ∀ out : List Int, out.Pairwise (· < ·) → (insS n out).Pairwise (· < ·) := by
 intro out
 induction out with
 | nil => intro _; simp [insS]
 | cons a r ih =>
  intro h
  rw [List.pairwise_cons] at h
  simp only [insS]
  split
  ·rename_i h1
   rw [List.pairwise_cons]
   refine ⟨fun x hx => ?_, ih h.2⟩
   rw [qft] at hx
   rcases hx with rfl | hx
   ·exact h1
   ·exact h.1 x hx
  ·rename_i h1
   split
   ·rw [List.pairwise_cons]; exact h
   ·rename_i h2
    rw [List.pairwise_cons, List.pairwise_cons]
    refine ⟨fun x hx => ?_, h⟩
    rw [qk8] at hx
    rcases hx with rfl | hx
    ·omega
    ·have := h.1 x hx; omega
theorem qkr (n : Int) (out : List Int) : (insS n out).length ≤ out.length + 1 := by
 rw [insS_eq]
 have := posN_le n out
 split
 ·simp; omega
 ·omega
theorem eFold (l : List (Int × Int)) : ∀ out : List Int, out.Pairwise (· < ·) → (l.foldl eStep out).Pairwise (· < ·) ∧ (∀ x, x ∈ l.foldl eStep out → x ∈ out ∨ ∃ e ∈ l, 0 ≤ e.1 ∧ x = e.1 / 8) ∧ (l.foldl eStep out).length ≤ out.length + l.length := by
 induction l with
 | nil => intro out h; exact ⟨h, fun x hx => .inl hx, by simp⟩
 | cons e r ih =>
  intro out h
  simp only [List.foldl_cons]
  have hs : (eStep out e).Pairwise (· < ·) := by
   unfold eStep; split
   ·exact h
   ·exact qh3 _ _ h
  obtain ⟨h1, h2, h3⟩ := ih _ hs
  refine ⟨h1, fun x hx => ?_, ?_⟩
  ·rcases h2 x hx with h | ⟨e', he', h⟩
   ·unfold eStep at h
    split at h
    ·exact .inl h
    ·rename_i hn
     rw [qft] at h
     rcases h with h | h
     ·exact .inr ⟨e, by simp, by omega, h⟩
     ·exact .inl h
   ·exact .inr ⟨e', by simp [he'], h⟩
  ·have : (eStep out e).length ≤ out.length + 1 := by
    unfold eStep; split
    ·omega
    ·exact qkr _ _
   simp only [qk3]; omega
theorem qiY {hi : Int} : ∀ {l : List Int} {lo : Int}, l.Pairwise (· < ·) → (∀ x ∈ l, lo ≤ x ∧ x ≤ hi) → lo ≤ hi + 1 → (l.length : Int) ≤ hi - lo + 1 := by
 intro l
 induction l with
 | nil => intro lo _ _ h; simp; omega
 | cons a r ih =>
  intro lo hs hb h
  rw [List.pairwise_cons] at hs
  have ha := hb a (by simp)
  have := ih (lo := a + 1) hs.2 (fun x hx => ⟨by have := hs.1 x hx; omega, (hb x (by simp [hx])).2⟩) (by omega)
  simp only [qk3]; omega
theorem qdz {l : List (Int × Int)} {lo hi : Int} (h : ∀ e ∈ l, lo ≤ e.1 ∧ e.1 ≤ hi) (hlh : lo ≤ hi) : ((eLines l).length : Int) ≤ hi / 8 - lo / 8 + 1 := by
 obtain ⟨h1, h2, _⟩ := eFold l [] List.Pairwise.nil
 refine qiY h1 (fun x hx => ?_) (by omega)
 rcases h2 x hx with hx | ⟨e, he, _, rfl⟩
 ·cases hx
 ·have := h e he; omega
theorem qfK {b : Bk} {need : Int} (hn : 2 ≤ need ∧ need ≤ b.2.1) : (∀ e ∈ carveE b need, b.1 ≤ e.1 ∧ e.1 ≤ b.1 + need ∧ isU e.2) ∧ ((carveE b need).length : Int) ≤ need + 3 := by
 have htk : takesN b.2.1 need = (if b.2.1 - need < 2 then b.2.1 else need) := by unfold takesN; rw [if_pos hn]
 have ht : 2 ≤ takesN b.2.1 need ∧ takesN b.2.1 need ≤ need + 1 ∧ (takesN b.2.1 need < b.2.1 → takesN b.2.1 need = need) := by
  rw [htk]; split <;> omega
 unfold carveE carveTo
 generalize takesN b.2.1 need = tk at *
 refine ⟨fun e he => ?_, ?_⟩
 ·rw [qlr, qk8, List.mem_append] at he
  rcases he with rfl | he | he
  ·exact ⟨by simp only; omega, by simp only; omega, wordN_u _ _⟩
  ·rw [List.mem_map] at he
   obtain ⟨t, ht1, rfl⟩ := he
   rw [List.mem_range] at ht1
   refine ⟨by simp only; omega, by simp only; omega, by unfold isU; omega⟩
  ·split at he
   ·rename_i hlt
    have := ht.2.2 hlt
    simp at he
    subst he
    exact ⟨by simp only; omega, by simp only; omega, wordN_u _ _⟩
   ·cases he
 ·split <;> simp <;> omega
structure EdOK (E : List (Int × Int)) (most : Int) : Prop where
 mem : ∀ e ∈ E, 0 ≤ e.1 ∧ e.1 ≤ 5000 ∧ isU e.2
 len : E.length ≤ 5000
 most : ((eLines E).length : Int) ≤ most
theorem EdOK.nil {m : Int} (h : 0 ≤ m) : EdOK [] m := ⟨fun e he => (by cases he), (by simp), (by simpa [eLines] using h)⟩
theorem qfn {ws : List Int} {n : Int} {cs : List Int} : EdOK (imgAlloc ws n cs).1 (linesP 1 n 0) := by
 have h0 : 0 ≤ linesP 1 n 0 := qe1 (sl := ⟨none, 0, 0⟩).1
 unfold imgAlloc
 split
 ·exact EdOK.nil h0
 ·rename_i hn0
  split
  ·exact EdOK.nil h0
  ·rename_i l hb
   have hB := qa0 hb
   have hlen := hB.len
   split
   ·exact EdOK.nil h0
   ·rename_i hc
    rcases qd6 (l := l) (need := needN n) (cs := cs) with h | ⟨i, h, hi, hu, hn1, hn2⟩
    ·omega
    ·rw [h, qkS]
     have hm := hB.mem (qkY (qaF hi))
     generalize bkAt l i = b at *
     obtain ⟨h1, h2⟩ := qfK ⟨hn2, hn1⟩
     have hneed : 1 ≤ n ∧ n ≤ 448 ∧ needN n = 1 + (n + 7) / 8 := by
      unfold needN at hn0 ⊢
      split at hn0
      ·rename_i hh; rw [if_pos hh]; exact ⟨hh.1, hh.2, rfl⟩
      ·exact absurd rfl hn0
     show EdOK (carveE b (needN n)) (linesP 1 n 0)
     refine ⟨fun e he => ?_, by omega, ?_⟩
     ·have := h1 e he; exact ⟨by omega, by omega, this.2.2⟩
     ·have := qdz (lo := b.1) (hi := b.1 + needN n) (fun e he => ⟨(h1 e he).1, (h1 e he).2.1⟩) (by omega)
      unfold linesP
      rw [if_pos rfl, if_pos ⟨by omega, by omega⟩]
      omega
theorem qeh {ws : List Int} {off : Int} : EdOK (imgFree ws off).1 (linesP 2 0 0) := by
 unfold imgFree
 split
 ·exact EdOK.nil (by decide)
 ·rename_i l hb
  have hB := qa0 hb
  have hlen := hB.len
  split
  ·exact EdOK.nil (by decide)
  ·rename_i hc
   rcases qdp off l 0 with h | ⟨i, h, hi, hu, ho⟩
   ·omega
   ·rw [qla] at h
    rw [h, qkS]
    have hF : mFrom l i < l.length := by unfold mFrom; split <;> omega
    have hm := hB.mem (qkY (qaF hF))
    simp only
    refine ⟨fun e he => ?_, by simp, ?_⟩
    ·simp at he
     subst he
     exact ⟨by simp only; omega, by simp only; omega, wordN_u _ _⟩
    ·have := qdz (l := [((bkAt l (mFrom l i)).1, wordN (sumTo l (mFrom l i) (mTo l i - mFrom l i)) false)]) (lo := (bkAt l (mFrom l i)).1) (hi := (bkAt l (mFrom l i)).1) (fun e he => by simp at he; subst he; exact ⟨by simp, by simp⟩) (by omega)
     have e1 : linesP 2 0 0 = 1 := by decide
     rw [e1]; omega
theorem qfm {ws : List Int} (h64 : qah ws) {off : Int} {bs : List Int} : EdOK (imgWrite ws off bs).1 (linesP 4 0 bs.length) := by
 have h0 : 0 ≤ linesP 4 0 bs.length := qe1 (sl := ⟨none, bs.length, 0⟩).1
 unfold imgWrite
 split
 ·exact EdOK.nil h0
 ·rename_i l hb
  have hB := qa0 hb
  have hlen := hB.len
  split
  ·rename_i hw
   have hin := qcz hB hw
   unfold inside at hin
   obtain ⟨o, rfl⟩ := qk9 hin.1
   rw [qkS]
   have hcur := qdt bs ws o h64
   have hcl := qch bs ws o
   by_cases hz : bs.length = 0
   ·have ht : touched o bs.length = 0 := by rw [hz]; rfl
    rw [ht]
    exact EdOK.nil h0
   have ht : touched o bs.length = (o + bs.length - 1) / 8 - o / 8 + 1 := by unfold touched; rw [if_neg hz]
   have hmem : ∀ e ∈ editsOf (putBs ws o bs) (o / 8) (touched o bs.length), ((o / 8 : Nat) : Int) ≤ e.1 ∧ e.1 ≤ (((o + bs.length - 1) / 8 : Nat) : Int) ∧ isU e.2 := by
    intro e he
    unfold editsOf at he
    rw [List.mem_map] at he
    obtain ⟨j, hj, rfl⟩ := he
    rw [List.mem_range] at hj
    refine ⟨by simp only; omega, by simp only; omega, ?_⟩
    have hlt : o / 8 + j < (putBs ws o bs).length := by omega
    simp only
    rw [qkP, qkO hlt, qln]
    exact hcur _ (qk5 hlt)
   simp only
   refine ⟨fun e he => ?_, by rw [qbw]; omega, ?_⟩
   ·have := hmem e he; exact ⟨by omega, by omega, this.2.2⟩
   ·have := qdz (lo := ((o / 8 : Nat) : Int)) (hi := (((o + bs.length - 1) / 8 : Nat) : Int)) (fun e he => ⟨(hmem e he).1, (hmem e he).2.1⟩) (by omega)
    unfold linesP
    rw [if_neg (by omega), if_pos rfl, if_pos (by omega)]
    omega
  ·exact EdOK.nil h0
theorem qfB : ∀ (l : List (Int × Int)) (ws : List Int), qah ws → (∀ e ∈ l, isU e.2) → qah (applyE ws l) := by
 intro l
 induction l with
 | nil => intro ws h _; exact h
 | cons e r ih =>
  intro ws h he
  simp only [applyE, List.foldl_cons]
  refine ih _ ?_ fun e' he' => he e' (by simp [he'])
  unfold putE
  split
  ·intro v hv
   rcases qlP hv with hv | rfl
   ·exact h v hv
   ·exact he e (by simp)
  ·exact h
def OpAt (H : AH) (o : Nat) (K a b c : Int) (sl : Sl) : Prop := ∃ e, H.get o = ⟨opl K a b c sl, .rw, e⟩
section
variable {H : AH} {o : Nat} {K a b c : Int} {sl : Sl}
theorem OpAt.c0 (h : OpAt H o K a b c sl) : AH.cell? H (qkN ⟨o, 0, none⟩ 0) = some (.int .i64 K) := by obtain ⟨e, h⟩ := h; simp [ql, AH.cell?, h, opl]
theorem OpAt.c2 (h : OpAt H o K a b c sl) : AH.cell? H (qkN ⟨o, 0, none⟩ 2) = some (.int .i64 b) := by obtain ⟨e, h⟩ := h; simp [ql, AH.cell?, h, opl]
theorem OpAt.c3 (h : OpAt H o K a b c sl) : AH.cell? H (qkN ⟨o, 0, none⟩ 3) = some (.int .i64 c) := by obtain ⟨e, h⟩ := h; simp [ql, AH.cell?, h, opl]
theorem OpAt.row (h : OpAt H o K a b c sl) : AH.row? H ⟨o, 0, none⟩ 5 = some (opl K a b c sl) := by
 obtain ⟨e, h⟩ := h
 simp only [AH.row?, h, qk7, qkW, if_false, List.drop_zero]
 rw [if_neg (by simp), qlH (by rw [op_len]; omega), if_pos ⟨by rw [op_len]; omega, op_ok⟩]
theorem OpAt.keep {H' : AH} (h : OpAt H o K a b c sl) (hg : H'.get o = H.get o) : OpAt H' o K a b c sl := by obtain ⟨e, h⟩ := h; exact ⟨e, hg.trans h⟩
theorem OpAt.new {e : Nat} : OpAt (H.push ⟨opl K a b c sl, .rw, e⟩) H.size K a b c sl := ⟨e, by rw [qp, if_pos rfl]⟩
end
end Go.Proofs.YtdcbkjgoaknmkaaGreat
